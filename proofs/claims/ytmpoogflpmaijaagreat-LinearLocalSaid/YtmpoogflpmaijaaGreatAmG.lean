/- Part of the proofs of laws of this seat: contracts and plain lemmas; no condition is added to a statement. -/
import Derived.Test.YtmpoogflpmaijaaGreatAmE
import Derived.Maps.RangeRun
import Derived.Sort.Grow
set_option linter.unusedSimpArgs false
set_option linter.unusedVariables false
section
/- THE ABSTRACT MACHINE, PART 39: a loop over a map's entries, whatever their order. -/
namespace Go.Am
open Go.ChangeMaps (setBlock)

def Key.toE : Key → C ⊕ List C
  | .c (.i k n) => .inl (.int k n)
  | .c (.s b) => .inl (.str b)
  | .a l => .inr (l.map fun | .i k n => .int k n | .s b => .str b)

/-- A key is short enough to be a string. -/
def Key.small : Key → Prop
  | .c (.s b) => b.size ≤ maxLen
  | .c _ => True
  | .a _ => False

theorem Key.toE_rep {F : Mem} {H : List O} {μ : Nat → Value} {k : Key} (h : k.small) : RepE F H μ k.toE k.toV := by
  cases k with
  | c x => cases x with
    | i q n => exact rfl
    | s b => exact ⟨rfl, h⟩
  | a l => exact h.elim

/-- The least of the rounds. -/
theorem wp_loop_n {P : Program} {c : Code} {Q : Exit → Act → World → Prop} (I : Nat → Act → World → Prop) {a : Act} {w : World} (h0 : ∃ n, I n a w)
    (step : ∀ n a w, I n a w → c.wp P (Exit.then (fun a' w' => ∃ n', n' < n ∧ I n' a' w') Q) a w) : (Code.loop c).wp P Q a w := by
  classical
  let least : Act → World → Nat := fun a w => if h : ∃ n, I n a w then (exists_least h).choose else 0
  refine wp_loop (fun a w => ∃ n, I n a w) least h0 ?_
  intro a w hI
  have hl : least a w = (exists_least hI).choose := by simp only [least]; rw [dif_pos hI]
  refine wp_mono (step (least a w) a w (by rw [hl]; exact (exists_least hI).choose_spec.1)) ?_
  intro e a' w' he
  cases e with
  | normal =>
    obtain ⟨n', n1, n2⟩ := he
    have hI' : ∃ n, I n a' w' := ⟨n', n2⟩
    refine ⟨hI', ?_⟩
    have hl' : least a' w' = (exists_least hI').choose := by simp only [least]; rw [dif_pos hI']
    rw [hl']
    exact Nat.lt_of_le_of_lt ((exists_least hI').choose_spec.2 n' n2) n1
  | _ => exact he

/-- The entries that are left, by their keys. -/
structure Left (es : Array MapEntry) (seen : Array Nat) (L : List Key) : Prop where
  nd : L.Nodup
  mem : ∀ k, k ∈ L ↔ ∃ e ∈ es.toList, e.key = k.toV ∧ seen.contains e.born = false

theorem Left.start {F : Mem} {sh : KS} {z : List Z} {va : Bool} {ks : List Key} {val : Key → Nat → C} {es : Array MapEntry} (h : MRep F sh z va ks val es.toList) : Left es #[] ks := by
  refine ⟨h.nd, fun k => ⟨fun hk => ?_, fun ⟨e, h1, h2, _⟩ => ?_⟩⟩
  · have : k.toV ∈ es.toList.map (·.key) := by rw [h.keys]; exact List.mem_map_of_mem hk
    obtain ⟨e, e1, e2⟩ := List.mem_map.1 this
    exact ⟨e, e1, e2, by simp⟩
  · have : e.key ∈ ks.map Key.toV := by rw [← h.keys]; exact List.mem_map_of_mem h1
    obtain ⟨y, y1, y2⟩ := List.mem_map.1 this
    have : y = k := Key.toV_inj (by rw [y2, h2])
    exact this ▸ y1

theorem Left.none {es : Array MapEntry} {seen : Array Nat} {L : List Key} (h : Left es seen L) (h0 : (leftOf es seen).size = 0) : L = [] := by
  cases L with
  | nil => rfl
  | cons k r =>
    obtain ⟨e, e1, e2, e3⟩ := (h.mem k).1 (by simp)
    have := all_seen es seen h0 e e1
    rw [e3] at this; cases this

theorem Left.next {F : Mem} {sh : KS} {z : List Z} {va : Bool} {ks : List Key} {val : Key → Nat → C} {es : Array MapEntry} (hr : MRep F sh z va ks val es.toList) (hb : (es.toList.map (·.born)).Nodup) {seen : Array Nat} {L : List Key} (h : Left es seen L) {e : MapEntry} (he : e ∈ (leftOf es seen).toList) :
    ∃ k, k ∈ L ∧ k ∈ ks ∧ e.key = k.toV ∧ RepV F va z.length (val k) e.val ∧ Left es (seen.push e.born) (L.erase k) := by
  obtain ⟨h1, h2⟩ := mem_left he
  obtain ⟨j, hj⟩ := List.mem_iff_getElem?.1 h1
  have hlen : es.toList.length = ks.length := by
    have := congrArg List.length hr.keys
    simpa using this
  have hjl := (List.getElem?_eq_some_iff.1 hj).1
  have hk : ks[j]? = some (ks[j]'(by omega)) := by simp
  have ek : e.key = (ks[j]'(by omega)).toV := by
    have h1 : (es.toList.map (·.key))[j]? = some e.key := by rw [List.getElem?_map, hj]; rfl
    rw [hr.keys, List.getElem?_map, hk] at h1
    exact (Option.some.inj h1).symm
  refine ⟨_, (h.mem _).2 ⟨e, h1, ek, h2⟩, List.mem_of_getElem? hk, ek, hr.vals j e _ hj hk, h.nd.erase _, fun k' => ?_⟩
  rw [h.nd.mem_erase_iff, h.mem k']
  constructor
  · rintro ⟨hne, e', e1, e2, e3⟩
    refine ⟨e', e1, e2, ?_⟩
    rw [contains_push, e3]
    simp only [Bool.false_or, beq_eq_false_iff_ne]
    intro q
    have : e' = e := born_inj hb e1 h1 q
    subst this
    exact hne (Key.toV_inj (by rw [← e2, ek]))
  · rintro ⟨e', e1, e2, e3⟩
    rw [contains_push] at e3
    simp only [Bool.or_eq_false_iff, beq_eq_false_iff_ne] at e3
    refine ⟨fun q => ?_, e', e1, e2, e3.1⟩
    subst q
    have hkk : e'.key = e.key := by rw [e2, ek]
    obtain ⟨j', hj'⟩ := List.mem_iff_getElem?.1 e1
    have hjl' := (List.getElem?_eq_some_iff.1 hj').1
    have h3 : (es.toList.map (·.key))[j']? = some e'.key := by rw [List.getElem?_map, hj']; rfl
    have h4 : (es.toList.map (·.key))[j]? = some e.key := by rw [List.getElem?_map, hj]; rfl
    have hnd : (es.toList.map (·.key)).Nodup := by
      rw [hr.keys]
      exact List.Pairwise.map _ (fun a b hab q => hab (Key.toV_inj q)) hr.nd
    have : j' = j := (List.getElem?_inj (by simpa using hjl') hnd).1 (by rw [h3, h4, hkk])
    subst this
    rw [hj] at hj'
    exact e3.2 (by cases hj'; rfl)

/-- Nothing that is tracked any more. -/
theorem Sat.drop {X : Cx} {K : Keep} {F0 : Mem} {H0 : List O} {μ0 : Nat → Value} {ts ts' : Ts} {H : List O} {F : Mem} {μ : Nat → Value} {a : Act} {w : World} (h : Sat X K F0 H0 μ0 ts H F μ a w) (ht : WT idN 0 ts ts') : TSat F [] μ ts' a.tmps := by
  intro t
  have h1 : HWk idN H [] := ⟨fun i o' h => by simp [getL] at h, fun i j h => by simp at h⟩
  exact TSat.wk h1 ht.out h.tp t

theorem owned_nil {μ : Nat → Value} {i b : Nat} : ¬ owned [] μ i b := by
  rintro ⟨⟨o, ho, _⟩, _⟩
  simp [getL] at ho

theorem owned_some' {K : Keep} {F : Mem} {H : List O} {μ : Nat → Value} {w : World} (h : HSat K F H μ w) {i b : Nat} (ho : owned H μ i b) : ∃ o, w.heap[b]? = some o := owned_some h ho

/-- What a loop over a map needs of the state: the map's block and the iterator's are kept aside. -/
noncomputable def Keep.two (K : Keep) (b : Nat) (o : Obj) (r : Nat) (o' : Obj) : Keep := { K with mem := fun x => if x = b then some o else if x = r then some o' else K.mem x }

theorem blk_owned {K : Keep} {F : Mem} {H : List O} {μ : Nat → Value} {w : World} {r : Nat} {o : Obj} (h : HSat K F H μ w) (hr : K.mem r = some o) {i b : Nat} (ho : owned H μ i b) : b ≠ r := by
  intro e
  subst e
  have := (h.sp i b ho).2
  rw [hr] at this; cases this

theorem HSat.swap {K : Keep} {F : Mem} {H : List O} {μ : Nat → Value} {w w1 : World} {b r : Nat} {o o1 o2 : Obj} (h : HSat (K.two b o r o1) F H μ w) (hne : r ≠ b) (hw : w1 = w ∨ w1 = w.drew) : HSat (K.two b o r o2) F H μ (setBlock w1 r o2) := by
  have e1 : w1.os = w.os ∧ w1.tape = w.tape ∧ w1.output = w.output ∧ w1.heap = w.heap := by rcases hw with rfl | rfl <;> exact ⟨rfl, rfl, rfl, rfl⟩
  obtain ⟨e1, e2, e3, e4⟩ := e1
  have mr : (K.two b o r o1).mem r = some o1 := by simp [Keep.two, hne]
  have hr : w.heap[r]? = some o1 := h.kp r o1 mr
  have hrl := (Array.getElem?_eq_some_iff.1 hr).1
  have hs : (setBlock w1 r o2).heap = w.heap.setIfInBounds r o2 := by simp [setBlock, e4]
  have hold : ∀ x, x ≠ r → (setBlock w1 r o2).heap[x]? = w.heap[x]? := fun x hx => by
    rw [hs, Array.getElem?_setIfInBounds_ne (Ne.symm hx)]
  have hnew : (setBlock w1 r o2).heap[r]? = some o2 := by rw [hs]; simp [hrl]
  have hmem : ∀ x, (K.two b o r o1).mem x = none → (K.two b o r o2).mem x = none := fun x hx => by
    simp only [Keep.two] at hx ⊢
    split at hx
    · cases hx
    · rename_i c
      rw [if_neg c]
      split at hx
      · cases hx
      · rename_i c2; rw [if_neg c2]; exact hx
  refine ⟨by show w1.os = _; rw [e1]; exact h.os, by show w1.tape = _; rw [e2]; exact h.tape, by show w1.output = _; rw [e3]; exact h.output, fun x y hx => ?_, fun x y hx => ?_, fun i oo hi => ?_, fun i x hx => ⟨(h.sp i x hx).1, hmem x (h.sp i x hx).2⟩, h.ij, fun x y hx => hmem x (h.dj x y hx)⟩
  · have : x ≠ r := fun q => by
      subst q
      have := h.dj x y hx
      rw [mr] at this; cases this
    rw [hold x this]; exact h.fr x y hx
  · by_cases c : x = r
    · subst c
      simp only [Keep.two, if_neg hne, if_pos] at hx
      cases hx
      exact hnew
    · rw [hold x c]
      refine h.kp x y ?_
      simp only [Keep.two, if_neg c] at hx ⊢
      exact hx
  · by_cases hd : oo = .dead
    · subst hd; trivial
    · exact (h.ob i oo hi).other (Ext.refl H μ) rfl fun x _ hx => hold x (blk_owned h mr ⟨⟨oo, hi, hd⟩, hx⟩)

/-- Two blocks more are kept aside, and nothing is tracked. -/
theorem HSat.two {K : Keep} {F : Mem} {H : List O} {μ : Nat → Value} {w : World} (h : HSat K F H μ w) {i b : Nat} (hb : owned H μ i b) {o : Obj} (ho : w.heap[b]? = some o) (o' : Obj) (μ' : Nat → Value) :
    HSat (K.two b o w.heap.size o') F [] μ' (w.alloc o') := by
  have hbl := (Array.getElem?_eq_some_iff.1 ho).1
  have hold : ∀ x y, w.heap[x]? = some y → (w.alloc o').heap[x]? = some y := fun x y hx => by rw [heap_alloc_old w o' (Array.getElem?_eq_some_iff.1 hx).1]; exact hx
  refine ⟨h.os, h.tape, h.output, fun x y hx => hold x y (h.fr x y hx), fun x y hx => ?_, fun i o hi => by simp [getL] at hi, fun i x hx => absurd hx owned_nil, fun i j x hx => absurd hx owned_nil, fun x y hx => ?_⟩
  · simp only [Keep.two] at hx
    split at hx
    · rename_i c; subst c; cases hx; exact hold x _ ho
    · split at hx
      · rename_i c; subst c; cases hx; exact heap_alloc_new w o'
      · exact hold x y (h.kp x y hx)
  · have h1 := h.fr x y hx
    have hxl := (Array.getElem?_eq_some_iff.1 h1).1
    have hxb : x ≠ b := fun q => by
      subst q
      have := (h.sp i x hb).1
      rw [this] at hx; cases hx
    simp only [Keep.two, if_neg hxb, if_neg (Nat.ne_of_lt hxl)]
    exact h.dj x y hx

theorem HSat.untwo {K : Keep} {F : Mem} {H : List O} {μ : Nat → Value} {w : World} {b r : Nat} {o o' : Obj} (h : HSat (K.two b o r o') F H μ w) (hb : K.mem b = none ∨ K.mem b = some o) (hr : K.mem r = none) : HSat K F H μ w := by
  have hmem : ∀ x, (K.two b o r o').mem x = none → K.mem x = none := fun x hx => by
    simp only [Keep.two] at hx
    split at hx
    · cases hx
    · split at hx
      · cases hx
      · exact hx
  refine ⟨h.os, h.tape, h.output, h.fr, fun x y hx => h.kp x y ?_, h.ob, fun i x hx => ⟨(h.sp i x hx).1, hmem x (h.sp i x hx).2⟩, h.ij, fun x y hx => hmem x (h.dj x y hx)⟩
  simp only [Keep.two]
  split
  · rename_i c; subst c
    rcases hb with hb | hb
    · rw [hb] at hx; cases hx
    · rw [hb] at hx; exact hx
  · split
    · rename_i c; subst c; rw [hr] at hx; cases hx
    · exact hx

/-! ### functions by parts -/
/-- A node: a piece of code. -/
structure AWn (X : Cx) (c : Code) (ts : Ts) (H : List O) (k : Kp) : Prop where
  out : AW X c ts H k
theorem AWn.ofVc {X : Cx} (hΓ : EnvOk X.P X.Γ) {c : Code} {ts : Ts} {H : List O} {k : Kp} (h : vc X c ts H k) : AWn X c ts H k := ⟨vc_sound hΓ c h⟩
theorem AWn.seq {X : Cx} (hΓ : EnvOk X.P X.Γ) {x y : Code} {ts : Ts} {H : List O} {k : Kp} (h : vc X x ts H fun e ts' H' => match e with
    | .normal => AWn X y ts' H' k
    | .exit id => k (.exit id) ts' H'
    | .ret => k .ret ts' H') : AWn X (.seq x y) ts H k := by
  refine ⟨fun K F0 H0 μ0 F μ a w hs => wp_seq (wp_mono (vc_sound hΓ x h K F0 H0 μ0 F μ a w hs) ?_)⟩
  rintro e a' w' ⟨ts', H', F', μ', hs', he⟩
  cases e with
  | normal => exact AWn.out he K F0 H0 μ0 F' μ' a' w' hs'
  | exit id => exact ⟨ts', H', F', μ', hs', he⟩
  | ret => exact ⟨ts', H', F', μ', hs', he⟩
  | goto l => exact he.elim
  | panic ch => exact he.elim
  | outgrown => exact he.elim
theorem AWn.assoc {X : Cx} {x y : Code} {ts : Ts} {H : List O} {k : Kp} (h : AWn X x ts H fun e ts' H' => match e with
    | .normal => AWn X y ts' H' k
    | .exit id => k (.exit id) ts' H'
    | .ret => k .ret ts' H') : AWn X (.seq x y) ts H k := by
  refine ⟨fun K F0 H0 μ0 F μ a w hs => wp_seq (wp_mono (h.out K F0 H0 μ0 F μ a w hs) ?_)⟩
  rintro e a' w' ⟨ts', H', F', μ', hs', he⟩
  cases e with
  | normal => exact AWn.out he K F0 H0 μ0 F' μ' a' w' hs'
  | exit id => exact ⟨ts', H', F', μ', hs', he⟩
  | ret => exact ⟨ts', H', F', μ', hs', he⟩
  | goto l => exact he.elim
  | panic ch => exact he.elim
  | outgrown => exact he.elim

/-- A function by its text, part by part. -/
theorem CSpec.of_aw {P : Program} {Γ : Env} (hΓ : EnvOk P Γ) {f : FuncId} {fn : Func} {c : Code} (hf : P.funcs[f]? = some fn) {args : List S} {H : List O} {Q : S → List O → Prop} (nt n0 : Nat) (rs : List ResultVar)
    (hnt : fn.ntmps = nt) (h : AWn ⟨P, Γ, nt, n0⟩ c (params 0 args) H (retK Γ rs Q)) (hb : fn.body = some c := by rfl) (hn0 : H.length = n0 := by rfl) (hrs : fn.results.toList = rs := by rfl) (hn : Nat.ble args.length nt = true := by rfl) : CSpec P f args H Q := by
  subst hnt
  subst hn0
  subst hrs
  have hn := Nat.le_of_ble_eq_true hn
  intro K F μ w vs hw hA
  refine calls_of_wp hf hb ?_
  have hsz : (vs ++ Array.replicate (fn.ntmps - vs.size) undef).size = fn.ntmps := by
    rw [Array.size_append, Array.size_replicate, hA.1]; omega
  have hT : TSat F H μ (params 0 args) (vs ++ Array.replicate (fn.ntmps - vs.size) undef) := by
    intro t
    rcases params_find args 0 t with e | ⟨j, s, rfl, e1, e2⟩
    · rw [e]; trivial
    · rw [e2]
      obtain ⟨v, v1, v2⟩ := hA.2 j s e1
      have hlt : j < vs.size := (Array.getElem?_eq_some_iff.1 v1).1
      rw [Nat.zero_add, Array.getD_eq_getD_getElem?, Array.getElem?_append_left hlt, v1]
      exact v2
  have hs : Sat ⟨P, Γ, fn.ntmps, H.length⟩ { K with ds := [] } F H μ (params 0 args) H F μ ⟨vs ++ Array.replicate (fn.ntmps - vs.size) undef, []⟩ w :=
    ⟨Mem.le_refl F, Ext.refl H μ, hw.ds [], hT, hsz, rfl, Nat.le_refl _⟩
  refine wp_mono (h.out { K with ds := [] } F H μ F μ _ w hs) ?_
  rintro e a' w' ⟨ts', H', F', μ', hs', he⟩
  have fin : resK Γ fn.results.toList ts' H' Q → a'.defers = [] ∧ ∃ v, (results fn a'.tmps).run P w' = .ok v w' ∧ (fun e w' => ∃ v F' μ' s H', e = Ending.returned v ∧ F.le F' ∧ HSat K F' H' μ' w' ∧ Ext H μ H' μ' ∧ RepS F' H' μ' s v ∧ Q s H') (.returned v) w' := by
    intro hr
    obtain ⟨v, s, r1, r2, r3⟩ := resK_ok (P := P) hΓ hs'.hs hs'.tp hr
    exact ⟨hs'.df, v, r1, v, F', μ', s, H', rfl, hs'.le, hs'.hs.ds K.ds, hs'.ext, r2, r3⟩
  cases e with
  | normal => exact fin he
  | ret => exact fin he
  | exit id => exact he.elim
  | goto l => exact he.elim
  | panic ch => exact he.elim
  | outgrown => exact he.elim

/-- A node: the last operation of a region begins a loop over a map. -/
structure RgN (X : Cx) (ops : Array Oper) (o : Oper) (c : Code) (ts : Ts) (H : List O) (k : Kp) : Prop where
  intro ::
  out : ∀ K F0 H0 μ0 F μ a w, Sat X K F0 H0 μ0 ts H F μ a w → wpList X.P ops (Exit.then (c.wp X.P (Post X K F0 H0 μ0 k)) (Post X K F0 H0 μ0 k)) [o] a w

theorem AWn.rg {X : Cx} (hΓ : EnvOk X.P X.Γ) {i : Nat} {ops : Array Oper} {o : Oper} {c : Code} {ts : Ts} {H : List O} {k : Kp} (pre : List Oper) (hp : ops.toList = pre ++ [o]) (h : vcOps X ops.toList pre ts H fun ts' H' => RgN X ops o c ts' H' k) :
    AWn X (.seq (.region i ops false) c) ts H k := by
  refine ⟨fun K F0 H0 μ0 F μ a w hs => wp_seq (wp_region_list ?_)⟩
  have := vcOps_sound2 (K := K) (F0 := F0) (H0 := H0) (μ0 := μ0) hΓ ops.toList (Q := Exit.then (c.wp X.P (Post X K F0 H0 μ0 k)) (Post X K F0 H0 μ0 k)) [o] pre h hs fun ts' H' F' μ' a' w' h1 h2 => by simpa using h1.out K F0 H0 μ0 F' μ' a' w' h2
  rw [← hp] at this
  simpa using this

/-- The loop over the entries. -/
def rgCode (b0 i7 : Nat) (ops7 : Array Oper) (dx b1 i8 : Nat) (ops8 : Array Oper) (body : Code) : Code :=
  .block b0 (.loop (.seq (.region i7 ops7 false) (.seq (.cond (.tmp dx) .skip (.exit b0)) (.block b1 (.seq (.region i8 ops8 false) body)))))

theorem find_self (d : Nat) (s : S) (ts : Ts) : find d ((d, s) :: ts) = s := by simp [find]
theorem putS {F : Mem} {H : List O} {μ : Nat → Value} {ts : Ts} {a : Act} {nt : Nat} (ht : TSat F H μ ts a.tmps) (hz : a.tmps.size = nt) {d : Nat} (hd : Nat.blt d nt = true) {s : S} {v : Value} (hs : RepS F H μ s v) : TSat F H μ ((d, s) :: ts) (a.put (some d) v).tmps :=
  ht.put (by rw [hz]; exact Nat.le_of_ble_eq_true hd) hs

set_option maxHeartbeats 1000000 in
theorem RgN.mk {X : Cx} (hΓ : EnvOk X.P X.Γ) (h0 : X.n0 = 0) {ops6 : Array Oper} {oR : Oper} {ts : Ts} {H : List O} {k : Kp} {b0 i7 : Nat} {oN oX : Oper} {b1 i8 : Nat} {ops8 : Array Oper} {body : Code}
    {t d dn dx de : Nat} {m : Operand} {kt e : Nat} {te : TI} {sh : KS} {ks : List Key} {val : Key → Nat → C} (mid : Nat) {oE : Oper} {r8 : List Oper}
    (hR : oR.op = .range t m) (gR : oR.guard = none) (dR : oR.dst = some d) (hd : Nat.blt d X.nt = true)
    (hN : oN.op = .next (.tmp d) false) (gN : oN.guard = none) (dN : oN.dst = some dn) (hdn : Nat.blt dn X.nt = true)
    (hX : oX.op = .extract (.tmp dn) 0) (gX : oX.guard = none) (dX : oX.dst = some dx) (hdx : Nat.blt dx X.nt = true)
    (h8 : ops8.toList = oE :: r8) (hE : oE.op = .entry (.tmp d)) (gE : oE.guard = none) (dE : oE.dst = some de) (hde : Nat.blt de X.nt = true)
    (hne : Nat.beq d dn = false ∧ Nat.beq d dx = false)
    (hm : mapOf X.Γ t = some (sh, kt, e, te)) (hx : opnd ts m = .c (.mpr mid)) (hg : getL H mid = some (.mp sh te.zero te.agg ks val)) (hsm : ∀ k ∈ ks, k.small) (hva : te.agg = false → te.zero.length = 1)
    {ι : Type} (st : Nat → ι → Ts) (Hs : ι → List O) (ok : ι → Prop) (left : ι → List Key) (i0 : ι) (ok0 : ok i0) (l0 : left i0 = ks)
    (ts1 : Ts) (hts : WT idN 0 ts ts1) (hmv : ∀ r, Mv X ((d, .c (.raw r)) :: ts1) [] (st r i0) (Hs i0)) (hkeep : ∀ r i, find d (st r i) = .c (.raw r))
    (round : ∀ r i key, ok i → key ∈ left i → key ∈ ks → vcOps X ops8.toList r8 ((de, .t [key.toE, elS te.agg te.zero.length (val key)]) :: (dx, .c (.bool true)) :: (dn, .u) :: st r i) (Hs i) fun ts' H' => vc X body ts' H' fun ex ts'' H'' => match ex with
      | .normal => ∃ j, ok j ∧ left j = (left i).erase key ∧ Mv X ts'' H'' (st r j) (Hs j)
      | .exit _ => False
      | .ret => k .ret ts'' H'')
    (fin : ∀ r i, ok i → left i = [] → k .normal ((dx, .c (.bool false)) :: (dn, .u) :: st r i) (Hs i)) :
    RgN X ops6 oR (rgCode b0 i7 #[oN, oX] dx b1 i8 ops8 body) ts H k := by
  refine ⟨fun K F0 H0 μ0 F μ a w hs => ?_⟩
  have hH0 : H0 = [] := List.eq_nil_of_length_eq_zero (by have := hs.n0; omega)
  subst hH0
  obtain ⟨hu, hkl, hte⟩ := mapOf_ok hΓ hm
  have hxv := opnd_ok hs.tp m
  rw [hx] at hxv
  obtain ⟨_, b, m1, m2⟩ : RepC F H μ (.mpr mid) (a.eval m) := hxv
  obtain ⟨b', es, ck, q1, q2, q3, q4⟩ := hs.hs.ob mid _ hg
  rw [m1] at q1
  cases q1
  have hown : owned H μ mid b := ⟨⟨_, hg, by simp⟩, by rw [m1]; rfl⟩
  have hbl := (Array.getElem?_eq_some_iff.1 q2).1
  refine wpList_step fun kk hkk => ?_
  simp only [Region.wanted, gR, if_true]
  unfold Oper.wp
  have run : (execOp a.eval oR).run X.P w = .ok (.value (.pointer (some ⟨w.heap.size, 0, none⟩))) (w.alloc (.mapIter (some b) ck #[] ck)) := by
    unfold execOp
    rw [hR]
    refine val1 ?_
    rw [m2]
    exact run_range_map w t kt e b es ck hu q2
  rw [run, Oper.upon_value, dR]
  refine hkk _ _ ?_
  show (rgCode b0 i7 #[oN, oX] dx b1 i8 ops8 body).wp X.P (Post X K F0 [] μ0 k) _ _
  generalize hr : w.heap.size = r
  have hrb : r ≠ b := by omega
  have hKb : K.mem b = none := (hs.hs.sp mid b hown).2
  have hKr : K.mem r = none := by
    cases hh : K.mem r with
    | none => rfl
    | some o =>
      have := hs.hs.kp _ _ hh
      rw [← hr, Array.getElem?_eq_none (Nat.le_refl _)] at this
      cases this
  let KK : Array Nat → Keep := fun seen => K.two b (.map es ck) r (.mapIter (some b) ck seen ck)
  have s0 : Sat X (KK #[]) F [] μ ((d, .c (.raw r)) :: ts1) [] F μ (a.put (some d) (.pointer (some ⟨r, 0, none⟩))) (w.alloc (.mapIter (some b) ck #[] ck)) :=
    ⟨Mem.le_refl F, Ext.refl [] μ, by have := hs.hs.two hown q2 (.mapIter (some b) ck #[] ck) μ; rw [hr] at this; exact this, putS (Sat.drop hs hts) hs.sz hd rfl, by simp [Act.put, hs.sz], hs.df, Nat.zero_le _⟩
  obtain ⟨F1, μ1, s1⟩ := hmv r _ _ _ _ _ _ _ _ s0
  -- the end: what was kept aside is forgotten
  have back : ∀ {seen : Array Nat} {ex : Exit} {a' : Act} {w' : World} {kx : Kp}, Post X (KK seen) F [] μ kx ex a' w' → Post X K F0 [] μ0 kx ex a' w' := by
    rintro seen ex a' w' kx ⟨ts', H', F', μ', hs', he⟩
    exact ⟨ts', H', F', μ', ⟨hs.le.le_trans' hs'.le, ⟨fun _ _ h => by simp [getL] at h, fun _ _ _ _ _ h => by simp [getL] at h, fun _ _ _ _ _ _ h => by simp [getL] at h⟩, hs'.hs.untwo (.inl hKb) hKr, hs'.tp, hs'.sz, hs'.df, Nat.zero_le _⟩, he⟩
  let I : Nat → Act → World → Prop := fun n a w => ∃ i seen F1 μ1, (left i).length = n ∧ ok i ∧ Left es seen (left i) ∧ Sat X (KK seen) F [] μ (st r i) (Hs i) F1 μ1 a w
  unfold rgCode
  refine wp_block (wp_loop_n I ⟨_, i0, #[], F1, μ1, rfl, ok0, by rw [l0]; exact Left.start q3, s1⟩ ?_)
  rintro n a1 w1 ⟨i, seen, F2, μ2, rfl, hi, hL, hs2⟩
  have hr2 : w1.heap[r]? = some (.mapIter (some b) ck seen ck) := hs2.hs.kp r _ (by simp [KK, Keep.two, hrb])
  have hb2 : w1.heap[b]? = some (.map es ck) := hs2.hs.kp b _ (by simp [KK, Keep.two])
  have hd2 : a1.eval (.tmp d) = .pointer (some ⟨r, 0, none⟩) := by
    have := hs2.tp d
    rw [hkeep] at this
    exact this
  refine wp_seq (wp_region_list ?_)
  refine wpList_step fun kk2 hkk2 => ?_
  simp only [Region.wanted, gN, if_true]
  unfold Oper.wp
  -- the second operation, then the condition
  have rest : ∀ (bb : Bool) (a3 : Act) (w3 : World) (l : Array Value), a3.tmps.size = X.nt → l[0]? = some (.bool bb) → a3.tmps.getD dn undef = .tuple l → ∀ Q : Exit → Act → World → Prop,
      (∀ a4 : Act, a4 = a3.put (some dx) (.bool bb) → Exit.then ((Code.seq (.cond (.tmp dx) .skip (.exit b0)) (.block b1 (.seq (.region i8 ops8 false) body))).wp X.P Q) Q .normal a4 w3) → wpList X.P #[oN, oX] (Exit.then ((Code.seq (.cond (.tmp dx) .skip (.exit b0)) (.block b1 (.seq (.region i8 ops8 false) body))).wp X.P Q) Q) [oX] a3 w3 := by
    intro bb a3 w3 l hz hl hv Q hQ
    refine wpList_step fun kk3 hkk3 => ?_
    simp only [Region.wanted, gX, if_true]
    unfold Oper.wp
    have run3 : (execOp a3.eval oX).run X.P w3 = .ok (.value (.bool bb)) w3 := by
      unfold execOp
      rw [hX]
      refine val1 ?_
      show (Instr.extract (a3.tmps.getD dn undef) 0).run X.P w3 = _
      rw [hv]
      simp [Instr.extract, hl]
    rw [run3, Oper.upon_value, dX]
    exact hkk3 _ _ (hQ _ rfl)
  rcases run_next_at (P := X.P) w1 oN.type r b ck ck seen es ck hr2 hb2 q4.1 (Nat.le_refl _) with ⟨z1, z2⟩ | ⟨en, en1, w2, en2, z2⟩
  · have run2 : (execOp a1.eval oN).run X.P w1 = .ok (.value (.tuple #[.bool false])) w1 := by
      unfold execOp
      rw [hN]
      refine val1 ?_
      rw [hd2]; exact z2
    rw [run2, Oper.upon_value, dN]
    have hlt : dn < a1.tmps.size := by rw [hs2.sz]; exact Nat.le_of_ble_eq_true hdn
    refine hkk2 _ _ (rest false _ _ #[.bool false] (by simp [Act.put, hs2.sz]) rfl (by simp [Act.put, Array.getD, hlt]) _ fun a4 ha4 => ?_)
    subst ha4
    have t4 : TSat F2 (Hs i) μ2 ((dx, .c (.bool false)) :: (dn, .u) :: st r i) ((a1.put (some dn) (.tuple #[.bool false])).put (some dx) (.bool false)).tmps :=
      putS (TSat.put_u hs2.tp) (by simp [Act.put, hs2.sz]) hdx rfl
    have hL0 := hL.none z1
    refine wp_seq (wp_cond_split (t := false) (by have := t4 dx; rw [find_self] at this; exact this) (fun e => by cases e) fun _ => wp_exit ?_)
    show (if b0 = b0 then _ else _)
    rw [if_pos rfl]
    exact back (seen := seen) ⟨_, _, F2, μ2, ⟨hs2.le, hs2.ext, hs2.hs, t4, by simp [Act.put, hs2.sz], hs2.df, hs2.n0⟩, fin r i hi hL0⟩
  · have run2 : (execOp a1.eval oN).run X.P w1 = .ok (.value (.tuple #[.bool true, en.key, en.val])) (setBlock w2 r (.mapIter (some b) ck (seen.push en.born) ck)) := by
      unfold execOp
      rw [hN]
      refine val1 ?_
      rw [hd2]; exact z2
    rw [run2, Oper.upon_value, dN]
    have hlt : dn < a1.tmps.size := by rw [hs2.sz]; exact Nat.le_of_ble_eq_true hdn
    refine hkk2 _ _ (rest true _ _ #[.bool true, en.key, en.val] (by simp [Act.put, hs2.sz]) rfl (by simp [Act.put, Array.getD, hlt]) _ fun a4 ha4 => ?_)
    subst ha4
    have t4 : TSat F2 (Hs i) μ2 ((dx, .c (.bool true)) :: (dn, .u) :: st r i) ((a1.put (some dn) (.tuple #[.bool true, en.key, en.val])).put (some dx) (.bool true)).tmps :=
      putS (TSat.put_u hs2.tp) (by simp [Act.put, hs2.sz]) hdx rfl
    obtain ⟨key, k1, k2, k3, k4, k5⟩ := Left.next q3 q4.2 hL en1
    obtain ⟨me, -⟩ := mem_left en1
    have hs3 : HSat (KK (seen.push en.born)) F2 (Hs i) μ2 (setBlock w2 r (.mapIter (some b) ck (seen.push en.born) ck)) := hs2.hs.swap hrb en2
    generalize hw3 : setBlock w2 r (.mapIter (some b) ck (seen.push en.born) ck) = w3 at hs3
    generalize ha4 : (a1.put (some dn) (.tuple #[.bool true, en.key, en.val])).put (some dx) (.bool true) = a4 at t4
    have hz4 : a4.tmps.size = X.nt := by rw [← ha4]; simp [Act.put, hs2.sz]
    have hdf4 : a4.defers = K.ds := by rw [← ha4]; exact hs2.df
    refine wp_seq (wp_cond_split (t := true) (by have := t4 dx; rw [find_self] at this; exact this) (fun _ => wp_skip ?_) (fun e => by cases e))
    refine wp_block (wp_seq (wp_region_list ?_))
    rw [h8]
    refine wpList_step fun kk4 hkk4 => ?_
    simp only [Region.wanted, gE, if_true]
    unfold Oper.wp
    have hd4 : a4.eval (.tmp d) = .pointer (some ⟨r, 0, none⟩) := by
      have := t4 d
      have e1 : Nat.beq dx d = false := by
        have := hne.2
        cases hh : Nat.beq dx d with
        | false => rfl
        | true => rw [Nat.eq_of_beq_eq_true hh] at this; simp at this
      have e2 : Nat.beq dn d = false := by
        have := hne.1
        cases hh : Nat.beq dn d with
        | false => rfl
        | true => rw [Nat.eq_of_beq_eq_true hh] at this; simp at this
      simp only [find, e1, e2, hkeep] at this
      exact this
    have run4 : (execOp a4.eval oE).run X.P w3 = .ok (.value (.tuple #[en.key, en.val])) w3 := by
      unfold execOp
      rw [hE]
      refine val1 ?_
      rw [hd4]
      exact run_entry_at w3 r b ck seen es ck en (hs3.kp r _ (by simp [KK, Keep.two, hrb])) (hs3.kp b _ (by simp [KK, Keep.two])) me q4.2
    rw [run4, Oper.upon_value, dE]
    refine hkk4 _ _ ?_
    have t5 : TSat F2 (Hs i) μ2 ((de, .t [key.toE, elS te.agg te.zero.length (val key)]) :: (dx, .c (.bool true)) :: (dn, .u) :: st r i) (a4.put (some de) (.tuple #[en.key, en.val])).tmps := by
      refine putS t4 hz4 hde ⟨#[en.key, en.val], rfl, rfl, fun j y hj => ?_⟩
      match j with
      | 0 => simp only [getL, Option.some.injEq] at hj; subst hj; exact ⟨en.key, rfl, by rw [k3]; exact Key.toE_rep (hsm key k2)⟩
      | 1 => simp only [getL, Option.some.injEq] at hj; subst hj; exact ⟨en.val, rfl, RepV.el hva (k4.mono hs2.le)⟩
      | j + 2 => simp [getL] at hj
    have hs5 : Sat X (KK (seen.push en.born)) F [] μ ((de, .t [key.toE, elS te.agg te.zero.length (val key)]) :: (dx, .c (.bool true)) :: (dn, .u) :: st r i) (Hs i) F2 μ2 (a4.put (some de) (.tuple #[en.key, en.val])) w3 :=
      ⟨hs2.le, hs2.ext, hs3, t5, by simp [Act.put, hz4], hdf4, hs2.n0⟩
    have hround := round r i key hi k1 k2
    rw [show ops8 = (oE :: r8).toArray by rw [← h8]] at hround ⊢
    refine vcOps_sound hΓ (oE :: r8) r8 (by simpa using hround) hs5 fun ts6 H6 F6 μ6 a6 w6 hv6 hs6 => ?_
    refine wp_mono (vc_sound hΓ body hv6 _ _ _ _ _ _ _ _ hs6) ?_
    rintro ex a7 w7 ⟨ts7, H7, F7, μ7, hs7, he7⟩
    cases ex with
    | normal =>
      obtain ⟨j, j1, j2, j3⟩ := he7
      obtain ⟨F8, μ8, hs8⟩ := j3 _ _ _ _ _ _ _ _ hs7
      refine ⟨(left j).length, ?_, j, seen.push en.born, F8, μ8, rfl, j1, by rw [j2]; exact k5, hs8⟩
      rw [j2, List.length_erase_of_mem k1]
      have := List.length_pos_of_mem k1
      omega
    | exit id => exact he7.elim
    | ret => exact back ⟨ts7, H7, F7, μ7, hs7, he7⟩
    | goto l => exact he7.elim
    | panic ch => exact he7.elim
    | outgrown => exact he7.elim
end Go.Am
end

section
/- THE ABSTRACT MACHINE, PART 40: a slice whose array is taken with its whole capacity. -/
namespace Go.Am
theorem setL_get {α : Type} {l l' : List α} {i : Nat} {y : α} (h : setL l i y = some l') : getL l' i = some y ∧ ∀ k, k ≠ i → getL l' k = getL l k := by
  obtain ⟨h1, rfl⟩ := setL_eq _ _ _ _ h
  refine ⟨by rw [getL_eq, List.getElem?_set_self h1], fun k hk => ?_⟩
  rw [getL_eq, getL_eq, List.getElem?_set_ne (Ne.symm hk)]
/-- What lies beyond is not looked at. -/
def tightG (n : Nat) (g : Nat → Nat → C) : Nat → Nat → C := fun i j => if i < n then g i j else .junk
/-- An argument is a slice of an array of the caller's: its array is taken with its whole capacity. -/
theorem tight_raw {K : Keep} {F : Mem} {H : List O} {μ : Nat → Value} {w : World} {args : List S} {vs : Array Value} (hw : HSat K F H μ w) (hA : RepA F H μ args vs) (id j : Nat) {e n : Nat} {g : Nat → Nat → C} (hid : getL H id = some (.arr e 1 n g)) (hj : getL args j = some (.c (.sl id 1 n n false))) :
    ∃ T a, n ≤ T ∧ T ≤ maxLen ∧ μ id = .slice a n T ∧ (a = none → T = 0) ∧ ∀ H' args', setL H id (.arr e 1 T (tightG n g)) = some H' → setL args j (.c (.sl id 1 n T true)) = some args' →
      HSat K F H' (upd μ id (.slice a T T)) w ∧ Ext H μ H' (upd μ id (.slice a T T)) ∧ RepA F H' (upd μ id (.slice a T T)) args' vs := by
  obtain ⟨xs, o1, o2, o3, o4⟩ := hw.ob id _ hid
  obtain ⟨av, a1, a2⟩ := hA.2 j _ hj
  obtain ⟨a0, e', n', g', y1, y2, y3, y4⟩ : RepC F H μ (.sl id 1 n n false) av := a2
  rw [hid] at y1
  cases y1
  obtain ⟨a, cap, m1, m2, -⟩ := y4 rfl
  -- the capacity
  have hcap : n ≤ cap ∧ cap ≤ maxLen ∧ (a = none → cap = 0) := by
    rcases o1.2 with ⟨q1, q2⟩ | ⟨b, cap', cur, q1, q2, q3, q4, q5, q6, q7⟩
    · rw [q1] at m1; cases m1; exact ⟨by omega, Nat.zero_le _, fun _ => rfl⟩
    · rw [q1] at m1; cases m1; exact ⟨q4, q5, fun q => by cases q⟩
  refine ⟨cap, a, hcap.1, hcap.2.1, m1, hcap.2.2, fun H' args' hs ha => ?_⟩
  obtain ⟨e1, e2⟩ := getL_set hs
  obtain ⟨f1, f2⟩ := setL_get ha
  have hE : Ext H μ H' (upd μ id (.slice a cap cap)) := by
    refine ⟨fun i cs hi => ?_, fun i ee es nn gg hi => ?_, fun i sh z va ks val hi => ?_⟩
    · have hne : i ≠ id := fun q => by subst q; rw [hid] at hi; cases hi
      exact ⟨⟨cs, by rw [e2 i hne]; exact hi⟩, by simp [upd, hne]⟩
    · by_cases q : i = id
      · subst q
        rw [hid] at hi
        cases hi
        exact ⟨cap, _, e1, hcap.1, fun q => by simp only [upd, if_true]; rw [m1, q]⟩
      · exact ⟨nn, gg, by rw [e2 i q]; exact hi, Nat.le_refl _, fun _ => by simp [upd, q]⟩
    · have hne : i ≠ id := fun q => by subst q; rw [hid] at hi; cases hi
      exact ⟨⟨ks, val, by rw [e2 i hne]; exact hi⟩, by simp [upd, hne]⟩
  have hblk : blk (.slice a cap cap) = blk (μ id) := by rw [m1]; cases a <;> rfl
  have hw' : HSat K F H' (upd μ id (.slice a cap cap)) w := by
    refine hw.step id (.arr e 1 cap (tightG n g)) (.slice a cap cap) e1 e2 hE (row := none) ⟨rfl, rfl, rfl, Nat.le_refl _, fun _ _ _ => rfl⟩ (fun k hk => by cases hk) (fun b hb => .inl ⟨⟨_, hid, by simp⟩, by rw [← hblk]; exact hb⟩) ?_
    simp only [OSat, upd, if_true]
    rcases o1.2 with ⟨q1, q2⟩ | ⟨b, cap', cur, q1, q2, q3, q4, q5, q6, q7⟩
    · rw [q1] at m1
      cases m1
      exact ⟨[], World.ownsRow_nil w 0 e 1, Nat.zero_le _, fun i hi => by omega, Sp.none rfl⟩
    · rw [q1] at m1
      cases m1
      have hc1 := o4 b cur e (0, 0) (by rw [q1]; rfl) q3
      refine ⟨cur.toList, ⟨by simpa using q6, .inr ⟨b, cap, cur, rfl, q2, q3, Nat.le_refl _, q5, q6, by rw [List.take_of_length_le]; simp [q6]⟩⟩, q5, fun i hi k hk => ?_, Sp.of rfl q3 hc1⟩
      have hk0 : k = 0 := by omega
      subst hk0
      rw [Nat.mul_one] at q6
      have hic : i < cur.size := by omega
      unfold tightG
      by_cases c : i < n
      · rw [if_pos c]
        obtain ⟨u, u1, u2⟩ := o3 i c 0 hk
        refine ⟨u, ?_, RepC.mono (Mem.le_refl F) hE _ _ u2⟩
        rw [← q7, List.getElem?_take_of_lt (by omega)] at u1
        exact u1
      · rw [if_neg c]
        refine ⟨cur.toList[i * 1 + 0]'(by simpa using hic), by rw [List.getElem?_eq_getElem], ?_⟩
        exact hc1 _ (List.getElem_mem _)
  have hlen : args'.length = args.length := by
    have := (setL_eq _ _ _ _ ha).2
    rw [this]; simp
  refine ⟨hw', hE, hA.1.trans hlen.symm, fun i s hi => ?_⟩
  by_cases q : i = j
  · subst q
    rw [f1] at hi
    cases hi
    exact ⟨av, a1, a0, e, cap, _, e1, Nat.le_refl _, hcap.1, fun _ => ⟨a, cap, by simp [upd], m2, fun _ => rfl⟩⟩
  · rw [f2 i q] at hi
    obtain ⟨v, v1, v2⟩ := hA.2 i s hi
    exact ⟨v, v1, RepS.mono (Mem.le_refl F) hE _ _ v2⟩
theorem setL_last {B : List O} {o o' : O} : setL (B ++ [o]) B.length o' = some (B ++ [o']) := by
  induction B with
  | nil => rfl
  | cons b B ih => simp only [List.cons_append, List.length_cons, setL, ih]
/-- The last object, taken with fewer elements. -/
theorem HSat.fewer {K : Keep} {F : Mem} {B : List O} {μ : Nat → Value} {w : World} {e n T : Nat} {g : Nat → Nat → C} {a : Option Addr} {cap : Nat} (hw : HSat K F (B ++ [.arr e 1 T g]) μ w) (hB : HWkL idN B.length (B ++ [.arr e 1 T g]) B) (hm : μ B.length = .slice a T cap) (hn : n ≤ T)
    (hg : ∀ i, i < n → (g i 0).imm = true) (h0 : a = none → n = 0) : HSat K F (B ++ [.arr e 1 n g]) (upd μ B.length (.slice a n cap)) w := by
  have hk : HWk idN (B ++ [.arr e 1 T g]) B := ⟨fun i o' hi => HWkL_get hB i o' hi, fun i j _ _ e => e⟩
  have hwB : HSat K F B μ w := hw.wk hk
  have hE := Ext.push B μ (.arr e 1 n g) (.slice a n cap)
  have hl : getL (B ++ [.arr e 1 T g]) B.length = some (.arr e 1 T g) := getL_append_eq _ _
  obtain ⟨xs, o1, o2, o3, o4⟩ := hw.ob _ _ hl
  have hblk : blk (.slice a n cap) = blk (μ B.length) := by rw [hm]; cases a <;> rfl
  have hne : ∀ {i b : Nat}, owned (B ++ [.arr e 1 n g]) (upd μ B.length (.slice a n cap)) i b → owned (B ++ [.arr e 1 T g]) μ i b := by
    rintro i b ⟨⟨o, ho, hd⟩, hb⟩
    by_cases c : i = B.length
    · subst c
      exact ⟨⟨_, hl, by simp⟩, by rw [← hblk]; simpa [upd] using hb⟩
    · rw [getL_append_lt _ _ _ c] at ho
      refine ⟨⟨o, by rw [getL_append_lt _ _ _ c]; exact ho, hd⟩, ?_⟩
      simpa [upd, c] using hb
  refine ⟨hw.os, hw.tape, hw.output, hw.fr, hw.kp, fun i o hi => ?_, fun i b hb => hw.sp i b (hne hb), fun i j b hi hj => hw.ij i j b (hne hi) (hne hj), hw.dj⟩
  by_cases c : i = B.length
  · subst c
    rw [getL_append_eq] at hi
    cases hi
    simp only [OSat, upd, if_true]
    rcases o1.2 with ⟨q1, q2⟩ | ⟨b, cap', cur, q1, q2, q3, q4, q5, q6, q7⟩
    · rw [hm] at q1
      cases q1
      have hn0 : n = 0 := by omega
      subst hn0
      exact ⟨[], World.ownsRow_nil w 0 e 1, Nat.zero_le _, fun i hi => by omega, Sp.none rfl⟩
    · rw [hm] at q1
      cases q1
      refine ⟨xs.take n, ⟨by rw [List.length_take, o1.1]; omega, .inr ⟨b, cap, cur, rfl, q2, q3, by omega, q5, q6, ?_⟩⟩, by omega, fun i hi j hj => ?_, Sp.of rfl q3 (o4 b cur e (0, 0) (by rw [hm]; rfl) q3)⟩
      · rw [← q7, List.take_take, Nat.mul_one, Nat.mul_one, Nat.min_eq_left hn]
      · have hj0 : j = 0 := by omega
        subst hj0
        obtain ⟨u, u1, u2⟩ := o3 i (by omega) 0 hj
        refine ⟨u, ?_, RepF.toC _ _ _ _ (imm_rep (hg i hi) u2)⟩
        rw [List.getElem?_take_of_lt (by omega)]
        exact u1
  · rw [getL_append_lt _ _ _ c] at hi
    exact (hwB.ob i o hi).other hE (by simp [upd, c]) fun _ _ _ => rfl
/-- The last argument is a slice of an array that was just made: it is taken with its whole capacity, and given back without. -/
theorem CSpec.fresh {P : Program} {f : FuncId} {args : List S} {B B' : List O} (j : Nat) {e n : Nat} {g : Nat → Nat → C} (hj : getL args j = some (.c (.sl B.length 1 n n false)))
    (hg : ∀ i, i < n → (g i 0).imm = true) (hlen : B'.length = B.length) (hB : ∀ T g, HWkL idN B'.length (B' ++ [.arr e 1 T g]) B')
    (h : ∀ T, n ≤ T → T ≤ maxLen → ∃ args', setL args j (.c (.sl B.length 1 n T true)) = some args' ∧ CSpec P f args' (B ++ [.arr e 1 T (tightG n g)]) fun s H => s = .u ∧ H = B' ++ [.arr e 1 T (tightG n g)]) :
    CSpec P f args (B ++ [.arr e 1 n g]) fun s H => s = .u ∧ H = B' ++ [.arr e 1 n (tightG n g)] := by
  intro K F μ w vs hw hA
  have hid : getL (B ++ [.arr e 1 n g]) B.length = some (.arr e 1 n g) := getL_append_eq _ _
  obtain ⟨T, a, t1, t2, t3, t4, t5⟩ := tight_raw hw hA B.length j hid hj
  obtain ⟨args', a1, a2⟩ := h T t1 t2
  obtain ⟨h1, h2, h3⟩ := t5 _ args' setL_last a1
  refine (a2 K F _ w vs h1 h3).mono ?_
  rintro ex w' ⟨v, F', μ', s, H', rfl, r2, r3, r4, r5, rfl, rfl⟩
  have hm : μ' B'.length = .slice a T T := by
    obtain ⟨n', g', q1, q2, q3⟩ := r4.2.1 B.length e 1 T _ (getL_append_eq _ _)
    rw [← hlen, getL_append_eq] at q1
    cases q1
    rw [hlen, q3 rfl]
    simp [upd]
  have hgi : ∀ i, i < n → (tightG n g i 0).imm = true := fun i hi => by unfold tightG; rw [if_pos hi]; exact hg i hi
  refine ⟨v, F', _, .u, _, rfl, r2, HSat.fewer r3 (hB T _) hm t1 hgi (fun q => by have := t4 q; omega), ?_, trivial, rfl, rfl⟩
  have hE := h2.trans r4
  refine ⟨fun i cs hi => ?_, fun i ee es nn gg hi => ?_, fun i sh z va ks val hi => ?_⟩
  · obtain ⟨⟨cs', q1⟩, q2⟩ := hE.1 i cs hi
    have hne : i ≠ B'.length := fun q => by rw [q, getL_append_eq] at q1; cases q1
    exact ⟨⟨cs', by rw [getL_append_lt _ _ _ hne] at q1 ⊢; exact q1⟩, by simp only [upd, if_neg hne]; exact q2⟩
  · obtain ⟨n', g', q1, q2, q3⟩ := hE.2.1 i ee es nn gg hi
    by_cases c : i = B'.length
    · subst c
      rw [hlen, getL_append_eq] at hi
      cases hi
      exact ⟨n, _, getL_append_eq _ _, Nat.le_refl _, fun _ => by simp only [upd, if_true]; rw [hlen, t3]⟩
    · exact ⟨n', g', by rw [getL_append_lt _ _ _ c] at q1 ⊢; exact q1, q2, fun q => by simp only [upd, if_neg c]; exact q3 q⟩
  · obtain ⟨⟨ks', val', q1⟩, q2⟩ := hE.2.2 i sh z va ks val hi
    have hne : i ≠ B'.length := fun q => by rw [q, getL_append_eq] at q1; cases q1
    exact ⟨⟨ks', val', by rw [getL_append_lt _ _ _ hne] at q1 ⊢; exact q1⟩, by simp only [upd, if_neg hne]; exact q2⟩
/-- An argument 'nil' is an array without elements. -/
theorem CSpec.nilArr {P : Program} {f : FuncId} {args args' : List S} {H : List O} {Q : S → List O → Prop} (j e : Nat) (g : Nat → Nat → C) (hj : getL args j = some (.c .nils)) (ha : setL args j (.c (.sl H.length 1 0 0 true)) = some args') (h : CSpec P f args' (H ++ [.arr e 1 0 g]) Q) : CSpec P f args H Q := by
  intro K F μ w vs hw hA
  obtain ⟨f1, f2⟩ := setL_get ha
  have hE := Ext.push H μ (.arr e 1 0 g) (.slice none 0 0)
  have hw' : HSat K F (H ++ [.arr e 1 0 g]) (upd μ H.length (.slice none 0 0)) w := hw.push _ _ ⟨rfl, rfl, rfl, Nat.le_refl _, fun _ _ _ => rfl⟩ (fun b hb => by cases hb) (by
    refine ⟨[], ?_, Nat.zero_le _, fun i hi => by omega, Sp.none (by simp [upd, blk])⟩
    simp only [upd, if_true]
    exact World.ownsRow_nil w 0 e 1)
  have hlen : args'.length = args.length := by
    have := (setL_eq _ _ _ _ ha).2
    rw [this]; simp
  refine (h K F _ w vs hw' ⟨hA.1.trans hlen.symm, fun i s hi => ?_⟩).mono ?_
  · by_cases q : i = j
    · subst q
      rw [f1] at hi
      cases hi
      obtain ⟨v, v1, v2⟩ := hA.2 i _ hj
      have hv : v = .slice none 0 0 := v2
      exact ⟨v, v1, by rw [hv]; rfl, e, 0, g, getL_append_eq _ _, Nat.le_refl _, Nat.le_refl _, fun _ => ⟨none, 0, by simp [upd], hv, fun _ => rfl⟩⟩
    · rw [f2 i q] at hi
      obtain ⟨v, v1, v2⟩ := hA.2 i s hi
      exact ⟨v, v1, RepS.mono (Mem.le_refl F) hE _ _ v2⟩
  · rintro ex w' ⟨v, F', μ', s, H'', rfl, h1, h2, h3, h4, h5⟩
    exact ⟨v, F', μ', s, H'', rfl, h1, h2, hE.trans h3, h4, h5⟩
end Go.Am
namespace Go.Am
/-- 'nil' in a slot, taken for an array of the call's own, without elements. -/
theorem Mv.reserve {X : Cx} {ts : Ts} {H : List O} (e es : Nat) (g : Nat → Nat → C) (t : Nat) (ht : find t ts = .c .nils) : Mv X ts H ((t, .c (.sl H.length es 0 0 false)) :: ts) (H ++ [.arr e es 0 g]) := by
  intro K F0 H0 μ0 F μ a w hs
  have hE := Ext.push H μ (.arr e es 0 g) (.slice none 0 0)
  have hw : HSat K F (H ++ [.arr e es 0 g]) (upd μ H.length (.slice none 0 0)) w := hs.hs.push _ _ ⟨rfl, rfl, rfl, Nat.le_refl _, fun _ _ _ => rfl⟩ (fun b hb => by cases hb) (by
    refine ⟨[], ?_, Nat.zero_le _, fun i hi => by omega, Sp.none (by simp [upd, blk])⟩
    simp only [upd, if_true]
    exact World.ownsRow_nil w 0 e es)
  refine ⟨F, _, hs.le, hs.ext.trans hE, hw, ?_, hs.sz, hs.df, hs.n0⟩
  intro u
  simp only [find]
  cases hb : Nat.beq t u with
  | true =>
    have : t = u := Nat.eq_of_beq_eq_true hb
    subst this
    have hv := hs.tp t
    rw [ht] at hv
    have hv' : a.tmps.getD t undef = .slice none 0 0 := hv
    rw [hv']
    exact ⟨rfl, e, 0, g, getL_append_eq _ _, Nat.le_refl _, Nat.le_refl _, fun _ => ⟨none, 0, by simp [upd], rfl, fun e => by cases e⟩⟩
  | false => exact RepS.mono (Mem.le_refl F) hE _ _ (hs.tp u)
theorem AWn.rgN {X : Cx} (hΓ : EnvOk X.P X.Γ) {i : Nat} {ops : Array Oper} {o : Oper} {c : Code} {ts : Ts} {H : List O} {k : Kp} (n : Nat) (hp : ops.toList = ops.toList.take n ++ [o]) (h : vcOps X ops.toList (ops.toList.take n) ts H fun ts' H' => RgN X ops o c ts' H' k) :
    AWn X (.seq (.region i ops false) c) ts H k := AWn.rg hΓ _ hp h
end Go.Am
end

section
/- THE ABSTRACT MACHINE, PART 41: a call that only reads what is tracked, and whose result is tracked objects of its own. -/
namespace Go.Am
/-- A cell that no frozen memory stands behind. -/
def C.loose : C → Bool
  | .ptr .. => true
  | .sl .. => true
  | .mpr .. => true
  | c => c.flat
def E.loose : C ⊕ List C → Bool
  | .inl y => y.loose
  | .inr ys => ys.all C.loose
def S.loose : S → Bool
  | .u => true
  | .c x => x.loose
  | .a xs => xs.all C.loose
  | .t l => l.all E.loose
  | .lz _ _ => false
  | .so .. => false
def O.loose : O → Prop
  | .vr cs => cs.all C.loose = true
  | .arr _ es n g => ∀ i, i < n → ∀ j, j < es → (g i j).loose = true
  | .dead => True
  | .mp _ _ _ ks val => ks = [] ∧ ∀ k j, (val k j).flat = true
def LooseH (H : List O) : Prop := ∀ id o, getL H id = some o → o.loose
theorem LooseH.nil : LooseH [] := fun id o h => by simp [getL] at h
theorem LooseH.cons {o : O} {H : List O} (ho : o.loose) (h : LooseH H) : LooseH (o :: H) := fun id o' h' => by
  cases id with
  | zero => simp only [getL, Option.some.injEq] at h'; subst h'; exact ho
  | succ id => exact h id o' h'
theorem C.loose_cases : ∀ {c : C}, c.loose = true → c.flat = true ∨ (∃ i o, c = .ptr i o) ∨ (∃ i es l t x, c = .sl i es l t x) ∨ ∃ i, c = .mpr i
  | .ptr i o, _ => .inr (.inl ⟨i, o, rfl⟩)
  | .sl i es l t x, _ => .inr (.inr (.inl ⟨i, es, l, t, x, rfl⟩))
  | .mpr i, _ => .inr (.inr (.inr ⟨i, rfl⟩))
  | .junk, _ => .inl rfl
  | .bool _, _ => .inl rfl
  | .int _ _, _ => .inl rfl
  | .str _, _ => .inl rfl
  | .nilp, _ => .inl rfl
  | .nilfn, _ => .inl rfl
  | .nils, _ => .inl rfl
  | .nilm, _ => .inl rfl
  | .isl _ _ _ _, h => .inl h
theorem looseC {F F' : Mem} {H : List O} {μ : Nat → Value} {c : C} (hc : c.loose = true) {v : Value} (h : RepC F H μ c v) : RepC F' H μ c v := by
  rcases C.loose_cases hc with h1 | ⟨i, o, rfl⟩ | ⟨i, es, l, t, x, rfl⟩ | ⟨i, rfl⟩
  · exact flatC h1 h
  · exact h
  · exact h
  · exact h
theorem looseL {F F' : Mem} {H : List O} {μ : Nat → Value} {xs : List C} (hc : xs.all C.loose = true) {cs : Array Value} (h : RepL F H μ xs cs) : RepL F' H μ xs cs :=
  ⟨h.1, fun j x hx => let ⟨v, v1, v2⟩ := h.2 j x hx; ⟨v, v1, looseC (all_get hc hx) v2⟩⟩
theorem looseS {F F' : Mem} {H : List O} {μ : Nat → Value} : ∀ {s : S}, s.loose = true → ∀ {v : Value}, RepS F H μ s v → RepS F' H μ s v
  | .u, _, _, _ => trivial
  | .c _, hc, _, h => looseC hc h
  | .a _, hc, _, ⟨cs, h1, h2⟩ => ⟨cs, h1, looseL hc h2⟩
  | .t l, hc, _, ⟨vs, h1, h2, h3⟩ => ⟨vs, h1, h2, fun j x hx => by
      obtain ⟨u, u1, u2⟩ := h3 j x hx
      refine ⟨u, u1, ?_⟩
      have := all_get (p := E.loose) hc hx
      cases x with
      | inl c => exact looseC this u2
      | inr cs => obtain ⟨k, k1, k2⟩ := u2; exact ⟨k, k1, looseL this k2⟩⟩
  | .lz _ s, hc, _, _ => by cases hc
  | .so .., hc, _, _ => by cases hc
theorem flatF {F F' : Mem} {c : C} (hc : c.flat = true) {v : Value} (h : RepF F c v) : RepF F' c v := by
  have := flatC (F := F) (F' := F') (H := []) (H' := []) (μ := fun _ => undef) (μ' := fun _ => undef) hc (RepF.toC _ _ c v h)
  cases c <;> first | exact this | cases hc
theorem HSat.loose {K K1 : Keep} {F F' : Mem} {H : List O} {μ : Nat → Value} {w : World} (h : HSat K F' H μ w) (hl : LooseH H) (hF : F.le F') (e1 : K.os = K1.os) (e2 : K.tape = K1.tape) (e3 : K.output = K1.output)
    (hk : ∀ b o, K1.mem b = some o → F' b = some o) (hd : ∀ b o, F b = some o → K1.mem b = none) : HSat K1 F H μ w := by
  refine ⟨h.os.trans e1, h.tape.trans e2, h.output.trans e3, fun b o hb => h.fr b o (hF b o hb), fun b o hb => h.fr b o (hk b o hb), fun id o ho => ?_, fun id b hb => ⟨?_, ?_⟩, h.ij, hd⟩
  · have h1 := h.ob id o ho
    have h2 := hl id o ho
    cases o with
    | vr cs =>
      obtain ⟨b, c, T, q1, q2, q3⟩ := h1
      exact ⟨b, c, T, q1, q2, looseL h2 q3⟩
    | arr e es n g =>
      obtain ⟨xs, q1, q2, q3, q4⟩ := h1
      exact ⟨xs, q1, q2, fun i hi j hj => by
        obtain ⟨v, v1, v2⟩ := q3 i hi j hj
        exact ⟨v, v1, looseC (h2 i hi j hj) v2⟩, q4⟩
    | dead => trivial
    | mp sh z va ks val =>
      obtain ⟨b, es, ck, q1, q2, q3, q4⟩ := h1
      obtain ⟨h3, h4⟩ := h2
      subst h3
      refine ⟨b, es, ck, q1, q2, ⟨q3.nd, q3.shp, q3.keys, fun i e k _ hk => by simp at hk, fun k hs hn j hj => ?_⟩, q4⟩
      obtain ⟨x, x1, x2⟩ := q3.none k hs hn j hj
      exact ⟨x, x1, flatF (h4 k j) x2⟩
  · have := (h.sp id b hb).1
    cases hq : F b with
    | none => rfl
    | some o => rw [hF b o hq] at this; cases this
  · have := (h.sp id b hb).1
    cases hq : K1.mem b with
    | none => rfl
    | some o => rw [hk b o hq] at this; cases this
/-- A call that only reads; what it makes is its own. -/
theorem CSpec.readsO {P : Program} {f : FuncId} {args args' : List S} {H : List O} {Q : S → List O → Prop} (hc : CSpec P f args' [] Q) (ha : BwA H args args') (hq : ∀ s Hc', Q s Hc' → s.loose = true ∧ LooseH Hc') {k : S → List O → Prop}
    (hk : ∀ s Hc', Q s Hc' → k (reS (sg [] H.length) s) (plug [] H Hc')) : CSpec P f args H k := by
  intro K F μ w vs hw hA
  obtain ⟨l1, l2⟩ := BwA_ok hw (o := 0) ha (fun j s hs => by simpa using hA.2 j s hs)
  have hw0 : HSat { K with mem := fun _ => none } (heapM w) [] μ w :=
    ⟨hw.os, hw.tape, hw.output, fun b o hb => hb, fun b o hb => (by cases hb), fun id o ho => by simp [getL] at ho, fun id b ⟨⟨o, ho, _⟩, _⟩ => by simp [getL] at ho, fun id id' b ⟨⟨o, ho, _⟩, _⟩ => by simp [getL] at ho, fun _ _ _ => rfl⟩
  have k0 := (Fr.nil (H := H)).aside hw
  refine (hc _ (heapM w) μ w vs hw0 ⟨hA.1.trans l1, fun j s hs => by simpa using l2 j s hs⟩).mono ?_
  rintro e w' ⟨v, F', μ', s, Hc', rfl, h1, h2, h3, h4, h5⟩
  obtain ⟨q1, q2⟩ := hq s Hc' h5
  have h2' : HSat (K.but H μ w []) F Hc' μ' w' := h2.loose q2 (fun b o hb => h1 b o (hw.fr b o hb)) rfl rfl rfl (fun b o hb => h1 b o (k0.kp b o hb)) k0.dj
  have hl : ([] : List O).length ≤ Hc'.length := Nat.zero_le _
  have h3' : Ext [] (fun i => μ (rho [] i)) Hc' μ' := ⟨fun _ _ hc => by simp [getL] at hc, fun _ _ _ _ _ hc => by simp [getL] at hc, fun _ _ _ _ _ _ hc => by simp [getL] at hc⟩
  exact ⟨v, F, plugM [] H.length μ μ', _, _, rfl, Mem.le_refl F, Fr.nil.back hw hl h3' (Mem.le_refl F) h2', Fr.nil.ext hl h3', Fr.nil.repS hl (looseS q1 h4), hk s Hc' h5⟩
theorem CallN.readsO {X : Cx} {f : FuncId} {args args' : List S} {dst : Option Tmp} {ts : Ts} {H Hc0 : List O} {s0 : S} (hb : HasBody X.P f) (hc : CSpec X.P f args' [] fun s H' => s = s0 ∧ H' = Hc0) (ha : BwA H args args') (hs : s0.loose = true) (hl : LooseH Hc0) {k : Ts → List O → Prop}
    (hk : forceH (plug [] H Hc0) fun H1 => forceS (reS (sg [] H.length) s0) fun s' => putK X.nt dst s' ts fun ts' => k ts' H1) : CallN X f args dst ts H k := by
  refine CallN.spec hb (CSpec.readsO hc ha (fun s Hc' ⟨e1, e2⟩ => by subst e1 e2; exact ⟨hs, hl⟩) fun s Hc' hq => ?_)
  obtain ⟨rfl, rfl⟩ := hq
  exact hk
/-- Nothing but frozen values. -/
def immTs (ts : Ts) : Prop := ∀ t, (find t ts).imm = true
theorem immTs.nil : immTs [] := fun _ => rfl
theorem immTs.cons {d : Nat} {s : S} {ts : Ts} (h : s.imm = true) (k : immTs ts) : immTs ((d, s) :: ts) := fun t => by
  simp only [find]
  split
  · exact h
  · exact k t
/-- The caller's array is put aside for the rest of a function. -/
theorem AWn.aside1 {X : Cx} {c : Code} {ts ts' : Ts} {e es n : Nat} {g : Nat → Nat → C} {Hr Hc : List O} {k : Kp} (rs : List Nat) (h1 : X.n0 = 1) (him : ∀ i, i < n → ∀ j, j < es → (g i j).imm = true)
    (hr : rs.Nodup) (hfr : WR (rho rs) Hc.length (.arr e es n g :: Hr) rs Hc) (hrs : idx rs 0 = none) (ht : WT (rho rs) Hc.length ts ts')
    (h : AWn { X with n0 := 0 } c ts' Hc (fun ex ts'' H'' => ∃ ts3, Mv { X with n0 := 0 } ts'' H'' ts3 [] ∧ immTs ts3 ∧ k ex ts3 [.arr e es n g])) : AWn X c ts (.arr e es n g :: Hr) k := by
  refine ⟨fun K F0 H0 μ0 F μ a w hs => ?_⟩
  have fr : Fr (.arr e es n g :: Hr) Hc rs := Fr.ofW hr hfr
  have k0 := fr.aside hs.hs
  have s0 : Sat { X with n0 := 0 } (K.but (.arr e es n g :: Hr) μ w rs) F [] μ ts' Hc F (fun i => μ (rho rs i)) a w :=
    ⟨Mem.le_refl F, ⟨fun _ _ h => by simp [getL] at h, fun _ _ _ _ _ h => by simp [getL] at h, fun _ _ _ _ _ _ h => by simp [getL] at h⟩, k0, TSat.wk fr.wk ht.out hs.tp, hs.sz, hs.df, Nat.zero_le _⟩
  refine wp_mono (h.out _ _ _ _ _ _ _ _ s0) ?_
  rintro ex a' w' ⟨ts'', H'', F', μ', hs', he⟩
  have fin : ∀ ex : Ex, (∃ ts3, Mv { X with n0 := 0 } ts'' H'' ts3 [] ∧ immTs ts3 ∧ k ex ts3 [.arr e es n g]) → ∃ ts3 F2, Sat X K F0 H0 μ0 ts3 [.arr e es n g] F2 μ a' w' ∧ k ex ts3 [.arr e es n g] := by
    rintro ex ⟨ts3, hm, hi, hk⟩
    obtain ⟨F2, μ2, hs2⟩ := hm _ _ _ _ _ _ _ _ hs'
    refine ⟨ts3, F2, ⟨hs.le.le_trans' hs2.le, ?_, ?_, fun t => immS (hi t) (hs2.tp t), hs2.sz, hs2.df, hs.n0⟩, hk⟩
    · have hl := hs.n0
      have hx := hs.ext
      have z : ∀ (id : Nat) (o : O), getL H0 id = some o → id = 0 := fun id o ho => by have := getL_lt ho; omega
      refine ⟨fun id cs ho => ?_, fun id e' es' n' g' ho => ?_, fun id sh z' va ks val ho => ?_⟩
      · have := z id _ ho; subst this
        obtain ⟨⟨cs', q1⟩, q2⟩ := hx.1 0 cs ho
        simp [getL] at q1
      · have := z id _ ho; subst this
        obtain ⟨n2, g2, q1, q2, q3⟩ := hx.2.1 0 e' es' n' g' ho
        simp only [getL] at q1
        exact ⟨n2, g2, q1, q2, q3⟩
      · have := z id _ ho; subst this
        obtain ⟨⟨ks', val', q1⟩, q2⟩ := hx.2.2 0 sh z' va ks val ho
        simp [getL] at q1
    · have hk2 := hs2.hs
      have old := hs.hs.ob 0 _ rfl
      have keep : ∀ b o, owned (.arr e es n g :: Hr) μ 0 b → w.heap[b]? = some o → w'.heap[b]? = some o := fun b o hb ho => by
        refine hk2.kp b o ?_
        simp only [Keep.but]
        rw [if_pos ⟨0, hrs, hb⟩]
        exact ho
      refine ⟨hk2.os, hk2.tape, hk2.output, hk2.fr, fun b o hb => ?_, fun id o ho => ?_, fun id b hb => ?_, fun id id' b hb hb' => ?_, fun b o hb => ?_⟩
      · by_cases c : ∃ id, idx rs id = none ∧ owned (.arr e es n g :: Hr) μ id b
        · obtain ⟨id, c1, c2⟩ := c
          have := (hs.hs.sp id b c2).2
          rw [hb] at this; cases this
        · refine hk2.kp b o ?_
          simp only [Keep.but]
          rw [if_neg c]; exact hb
      · have hid : id = 0 := by have := getL_lt ho; simp at this; exact this
        subst hid
        simp only [getL, Option.some.injEq] at ho
        subst ho
        obtain ⟨xs, ⟨q1, q2⟩, q3, q4, q5⟩ := old
        have own0 : ∀ b, blk (μ 0) = some b → owned (.arr e es n g :: Hr) μ 0 b := fun b hb => ⟨⟨_, rfl, by simp⟩, hb⟩
        refine ⟨xs, ⟨q1, ?_⟩, q3, fun i hi j hj => ?_, q5.kept ⟨q1, q2⟩ fun b o hb hbo => keep b o (own0 b hb) hbo⟩
        · rcases q2 with q | ⟨g', cap, cur, q, r2, r3, rest⟩
          · exact .inl q
          · exact .inr ⟨g', cap, cur, q, r2, keep _ _ (own0 _ (by rw [q]; rfl)) r3, rest⟩
        · obtain ⟨v, v1, v2⟩ := q4 i hi j hj
          refine ⟨v, v1, ?_⟩
          exact RepC.mono hs2.le (Ext.refl _ _) _ _ (RepF.toC [O.arr e es n g] μ _ v (imm_rep (him i hi j hj) v2))
      · have hid : id = 0 := by
          obtain ⟨⟨o, ho, _⟩, _⟩ := hb
          have := getL_lt ho; simp at this; exact this
        subst hid
        have hb' : owned (.arr e es n g :: Hr) μ 0 b := ⟨⟨_, rfl, by simp⟩, hb.2⟩
        obtain ⟨o, ho⟩ := owned_some hs.hs hb'
        refine ⟨?_, (hs.hs.sp 0 b hb').2⟩
        cases hq : F2 b with
        | none => rfl
        | some o' =>
          have := hk2.dj b o' hq
          simp only [Keep.but] at this
          rw [if_pos ⟨0, hrs, hb'⟩, ho] at this; cases this
      · have z : ∀ id, owned [.arr e es n g] μ id b → id = 0 := fun id ⟨⟨o, ho, _⟩, _⟩ => by have := getL_lt ho; simp at this; exact this
        rw [z id hb, z id' hb']
      · have := hk2.dj b o hb
        simp only [Keep.but] at this
        split at this
        · rename_i c
          obtain ⟨id, c1, c2⟩ := c
          exact (hs.hs.sp id b c2).2
        · exact this
  cases ex with
  | normal => obtain ⟨ts3, F2, h3, h4⟩ := fin .normal he; exact ⟨ts3, _, F2, μ, h3, h4⟩
  | exit id => obtain ⟨ts3, F2, h3, h4⟩ := fin (.exit id) he; exact ⟨ts3, _, F2, μ, h3, h4⟩
  | ret => obtain ⟨ts3, F2, h3, h4⟩ := fin .ret he; exact ⟨ts3, _, F2, μ, h3, h4⟩
  | _ => exact he.elim
end Go.Am
end

section
/- THE ABSTRACT MACHINE, PART 42: a region whose order is open, for which all is frozen while it runs, and tracked again afterwards. -/
namespace Go.Am
/-- Slots that the operations do not fill. -/
def KeepT (a0 : Act) (l : List Oper) (a : Act) : Prop := ∀ t, (∀ o ∈ l, o.dst ≠ some t) → a.tmps.getD t undef = a0.tmps.getD t undef
theorem KeepT.put {a0 a : Act} {l : List Oper} {o : Oper} (h : KeepT a0 l a) (ho : o ∈ l) (v : Value) : KeepT a0 l (a.put o.dst v) := by
  intro t ht
  rw [← h t ht]
  cases hd : o.dst with
  | none => rfl
  | some d =>
    have hne : d ≠ t := fun e => ht o ho (by rw [hd, e])
    simp only [Act.put, Array.getD_eq_getD_getElem?]
    rw [Array.getElem?_setIfInBounds_ne hne]
theorem wp_keeps {P : Program} {a0 : Act} {l : List Oper} {o : Oper} (ho : o ∈ l) {a : Act} {w : World} {K K' : Act → World → Prop} {Q Q' : Exit → Act → World → Prop} (hq : ∀ e a w, Q e a w → e ≠ .normal → Q' e a w)
    (h : ∀ a w, KeepT a0 l a → K a w → K' a w) (ha : KeepT a0 l a) (hh : o.wp P a w K Q) : o.wp P a w K' Q' := by
  have hL : LetsOut Q → LetsOut Q' := fun ⟨x, y, z⟩ => ⟨x, y, hq _ _ _ z (by simp)⟩
  unfold Oper.wp at *
  generalize (execOp a.eval o).run P w = r at *
  cases r with
  | ok n w' =>
    cases n with
    | value v => exact h _ _ (ha.put ho v) hh
    | skip => exact h _ _ (ha.put ho _) hh
    | defer d => exact h _ _ (KeepT.put (a := { a with defers := d :: a.defers }) (fun t ht => ha t ht) ho _) hh
    | enter f args =>
      refine Calls.mono hh fun e w'' he => ?_
      cases e with
      | returned v => exact h _ _ (ha.put ho v) he
      | panicked c => exact hq _ _ _ he (by simp)
      | outgrown => exact hL he
    | row r args => exact Rows.mono hh fun v w'' he => h _ _ (ha.put ho v) he
    | _ => exact hh
  | halt x w' =>
    cases x with
    | panic v => exact hq _ _ _ hh (by simp)
    | _ => exact hh
theorem wpAny_keeps {P : Program} {md : Region.Mode} {ops : Array Oper} {Q : Exit → Act → World → Prop} {a0 : Act} : ∀ (fuel : Nat) (listed : Array Bool) (a : Act) (w : World), KeepT a0 ops.toList a → wpAny P md ops Q fuel listed a w →
    wpAny P md ops (fun e a' w' => Q e a' w' ∧ (e = .normal → KeepT a0 ops.toList a')) fuel listed a w
  | 0, listed, a, w, ha, h => ⟨h.1, h.2, fun _ => ha⟩
  | fuel + 1, listed, a, w, ha, h => by
    refine ⟨fun hr => ⟨h.1 hr, fun _ => ha⟩, fun i hi => ?_⟩
    have := h.2 i hi
    unfold wpOp at this ⊢
    cases ho : ops[i]? with
    | none =>
      simp only [ho] at this ⊢
      exact wpAny_keeps fuel _ a w ha this
    | some o =>
      simp only [ho] at this ⊢
      have hm : o ∈ ops.toList := by
        have := Array.mem_of_getElem? ho
        simpa using this
      split
      · rename_i hw
        simp only [hw, if_true] at this
        rcases this with h1 | h1
        · exact .inl (wp_keeps hm (fun e a w q hn => ⟨q, fun e' => absurd e' hn⟩) (fun a w ha h => wpAny_keeps fuel _ a w ha h) ha h1)
        · obtain ⟨x, y, z⟩ := h1.2
          exact .inr ⟨h1.1, x, y, z, fun e' => by cases e'⟩
      · rename_i hw
        simp only [hw] at this
        exact wpAny_keeps fuel _ _ w (ha.put hm _) this
/-- Slots as they stand when all memory is taken for frozen. -/
inductive BwT (H : List O) (ts : Ts) : Ts → Prop
  | nil : BwT H ts []
  | cons {t : Nat} {s : S} {r : Ts} (h : BwS H (find t ts) s) (k : BwT H ts r) : BwT H ts ((t, s) :: r)
theorem BwT.ok {K : Keep} {F : Mem} {H : List O} {μ : Nat → Value} {w : World} {ts : Ts} {tm : Array Value} (hw : HSat K F H μ w) (ht : TSat F H μ ts tm) {r : Ts} (h : BwT H ts r) : TSat (heapM w) [] μ r tm := by
  induction h with
  | nil => intro t; trivial
  | @cons t s r h k ih =>
    intro t'
    simp only [find]
    cases hb : Nat.beq t t' with
    | true =>
      have := Nat.eq_of_beq_eq_true hb
      subst this
      exact BwS_ok hw h (ht t)
    | false => exact ih t'
def flatTs (ts : Ts) : Bool := ts.all fun p => p.2.flat
def noDst (l : List Oper) (t : Nat) : Bool := l.all fun o => match o.dst with
  | none => true
  | some d => !Nat.beq d t
theorem noDst_ok {l : List Oper} {t : Nat} (h : noDst l t = true) : ∀ o ∈ l, o.dst ≠ some t := by
  intro o ho hd
  have := List.all_eq_true.1 h o ho
  rw [hd] at this
  simp at this
theorem find_app {F : Mem} {H : List O} {μ : Nat → Value} {r : Ts} {t : Nat} {v : Value} (hr : RepS F H μ (find t r) v) : ∀ {l : Ts}, RepS F H μ (find t l) v → RepS F H μ (find t (l ++ r)) v
  | [], _ => hr
  | (d, s) :: l, h => by
    simp only [List.cons_append, find] at h ⊢
    cases hb : Nat.beq d t with
    | true => rw [hb] at h; exact h
    | false => rw [hb] at h; exact find_app hr h
theorem flat_find {t : Nat} : ∀ {l : Ts}, flatTs l = true → (find t l).flat = true
  | [], _ => rfl
  | (d, s) :: l, h => by
    simp only [flatTs, List.all_cons, Bool.and_eq_true] at h
    simp only [find]
    split
    · exact h.1
    · exact flat_find (l := l) h.2
/-- A region whose order is open: it only reads what is tracked, and what it leaves has no memory. -/
theorem Dr.thaw {X : Cx} (hΓ : EnvOk X.P X.Γ) (hm : X.P.follows .mixedOrders = true) {id : Nat} {ops : Array Oper} {ts : Ts} {H : List O} {k : Kp} (kp : List Nat) (tsF : Ts) (hF : BwT H ts tsF) (hkp : kp.all (noDst ops.toList) = true)
    (hok : drawB [] [] ops.toList = true) (h : vcOpsD { X with n0 := 0 } [] ops.toList ops.toList tsF [] fun ts' _ => ∃ tsN, WT idN 0 ts' tsN ∧ flatTs tsN = true ∧ k .normal (tsN ++ keepT kp ts) H) : Dr X id ops ts H k := by
  refine ⟨fun K F0 H0 μ0 F μ a w hs => ?_⟩
  have hw0 : HSat { K with mem := fun _ => none } (heapM w) [] μ w :=
    ⟨hs.hs.os, hs.hs.tape, hs.hs.output, fun b o hb => hb, fun b o hb => (by cases hb), fun id o ho => by simp [getL] at ho, fun id b ⟨⟨o, ho, _⟩, _⟩ => by simp [getL] at ho, fun id id' b ⟨⟨o, ho, _⟩, _⟩ => by simp [getL] at ho, fun _ _ _ => rfl⟩
  have s0 : Sat { X with n0 := 0 } { K with mem := fun _ => none } (heapM w) [] μ tsF [] (heapM w) μ a w :=
    ⟨Mem.le_refl _, Ext.refl [] μ, hw0, hF.ok hs.hs hs.tp, hs.sz, hs.df, Nat.le_refl _⟩
  have h1 := wpAny_draw (X := { X with n0 := 0 }) (k := fun e ts' _ => match e with
    | .normal => ∃ tsN, WT idN 0 ts' tsN ∧ flatTs tsN = true ∧ k .normal (tsN ++ keepT kp ts) H
    | _ => False) hΓ hm [] [] hok h _ _ _ _ _ _ _ _ s0
  refine wp_mono (wp_region_any hm (wpAny_keeps (a0 := a) _ _ _ _ (fun _ _ => rfl) h1)) ?_
  rintro e a' w' ⟨⟨ts', H', F', μ', hs', he⟩, hk⟩
  cases e with
  | normal =>
    obtain ⟨tsN, n1, n2, n3⟩ := he
    have kk := hk rfl
    have old : ∀ b o, w.heap[b]? = some o → w'.heap[b]? = some o := fun b o hb => hs'.hs.fr b o (hs'.le b o hb)
    refine ⟨_, H, F, μ, ⟨hs.le, hs.ext, hs.hs.later (hs'.hs.os.trans hs.hs.os.symm) (hs'.hs.tape.trans hs.hs.tape.symm) (hs'.hs.output.trans hs.hs.output.symm) old, fun t => ?_, hs'.sz, hs'.df, hs.n0⟩, n3⟩
    have hN : RepS F H μ (find t tsN) (a'.tmps.getD t undef) := by
      have h1 : HWk idN H' [] := ⟨fun i o' h => by simp [getL] at h, fun i j h => by simp at h⟩
      exact flatS (flat_find n2) (TSat.wk h1 n1.out hs'.tp t)
    refine find_app ?_ hN
    clear n3 hN h h1
    induction kp with
    | nil => trivial
    | cons t0 r ih =>
      simp only [List.all_cons, Bool.and_eq_true] at hkp
      simp only [keepT, find]
      cases hb : Nat.beq t0 t with
      | true =>
        have := Nat.eq_of_beq_eq_true hb
        subst this
        rw [kk t0 (noDst_ok hkp.1)]
        exact hs.tp t0
      | false => exact ih hkp.2
  | exit id => exact he.elim
  | ret => exact he.elim
  | _ => exact he.elim
end Go.Am
end

section
/- THE ABSTRACT MACHINE, PART 43: the last operations of a region by hand: sort.Slice at a slice with one element or none. -/
namespace Go.Am
open Go.Sort

theorem HSat.grown {K : Keep} {F : Mem} {H : List O} {μ : Nat → Value} {w w' : World} (h : HSat K F H μ w) (hg : w.grownBy w' none) : HSat K F H μ w' := by
  have hold : ∀ b o, w.heap[b]? = some o → w'.heap[b]? = some o := fun b o hb => by
    rw [hg.block b (Array.getElem?_eq_some_iff.1 hb).1 (fun e => by cases e)]; exact hb
  refine ⟨hg.os.trans h.os, hg.tape.trans h.tape, hg.output.trans h.output, fun b o hb => hold b o (h.fr b o hb), fun b o hb => hold b o (h.kp b o hb), fun i o hi => (h.ob i o hi).other (Ext.refl H μ) rfl fun b hb _ => hg.block b hb (fun e => by cases e), h.sp, h.ij, h.dj⟩
theorem grow_by (w : World) (os : Array Obj) : w.grownBy (grow w os) none :=
  ⟨rfl, rfl, rfl, by simp, fun k hk _ => by simp [grow, Array.getElem?_append_left hk]⟩

/-- A node: the last operations of a region. -/
structure RwN (X : Cx) (ops : Array Oper) (l : List Oper) (c : Code) (ts : Ts) (H : List O) (k : Kp) : Prop where
  out : ∀ K F0 H0 μ0 F μ a w, Sat X K F0 H0 μ0 ts H F μ a w → wpList X.P ops (Exit.then (c.wp X.P (Post X K F0 H0 μ0 k)) (Post X K F0 H0 μ0 k)) l a w

theorem AWn.rw {X : Cx} (hΓ : EnvOk X.P X.Γ) {i : Nat} {ops : Array Oper} {c : Code} {ts : Ts} {H : List O} {k : Kp} (pre l : List Oper) (hp : ops.toList = pre ++ l) (h : vcOps X ops.toList pre ts H fun ts' H' => RwN X ops l c ts' H' k) :
    AWn X (.seq (.region i ops false) c) ts H k := by
  refine ⟨fun K F0 H0 μ0 F μ a w hs => wp_seq (wp_region_list ?_)⟩
  have := vcOps_sound2 (K := K) (F0 := F0) (H0 := H0) (μ0 := μ0) hΓ ops.toList (Q := Exit.then (c.wp X.P (Post X K F0 H0 μ0 k)) (Post X K F0 H0 μ0 k)) l pre h hs fun ts' H' F' μ' a' w' h1 h2 => by simpa using h1.out K F0 H0 μ0 F' μ' a' w' h2
  rw [← hp] at this
  simpa using this

theorem RwN.sortTiny {X : Cx} {ops : Array Oper} {oI oF oC : Oper} {c : Code} {ts : Ts} {H : List O} {k : Kp} {T e dI dF dC fS : Nat} {x : Operand} {fn : Fn} {caps : Array Operand} {tys : Array TypeId} {n : Nat}
    (hI : oI.op = .makeInterface T x) (gI : oI.guard = none) (dI' : oI.dst = some dI)
    (hF : oF.op = .makeFunc fn #[] caps) (gF : oF.guard = none) (dF' : oF.dst = some dF)
    (hC : oC.op = .call { callee := .value (.func fS), args := #[.tmp dI, .tmp dF], argTypes := tys }) (gC : oC.guard = none) (dC' : oC.dst = some dC)
    (hd : Nat.blt dI X.nt = true ∧ Nat.blt dF X.nt = true ∧ Nat.blt dC X.nt = true) (hne : Nat.beq dI dF = false)
    (hu : X.P.underlying T = some (.slice e)) (hx : ∀ F μ v, RepS F H μ (opnd ts x) v → ∃ p c, v = .slice p n c)
    (hb : ∃ fn : Func, X.P.funcs[fS]? = some fn ∧ fn.body.isSome = true ∧ (fn.name == "runtime.NumGoroutine") = false)
    (hS : ∀ p c lf la lb w, Calls X.P fS #[.iface T (.slice p n c), .func lf la lb] w fun e w' => e = .returned (.tuple #[]) ∧ ∃ os, w' = grow w os)
    (h : AWn X c ((dC, .u) :: (dF, .u) :: (dI, .u) :: ts) H k) : RwN X ops [oI, oF, oC] c ts H k := by
  refine ⟨fun K F0 H0 μ0 F μ a w hs => ?_⟩
  obtain ⟨d1, d2, d3⟩ := hd
  obtain ⟨p, cp, hv⟩ := hx F μ _ (opnd_ok hs.tp x)
  refine wpList_step fun k1 hk1 => ?_
  simp only [Region.wanted, gI, if_true]
  unfold Oper.wp
  have r1 : (execOp a.eval oI).run X.P w = .ok (.value (.iface T (.slice p n cp))) w := by
    unfold execOp
    rw [hI]
    refine val1 ?_
    simp [Instr.makeInterface, run_underlying hu, hv]
  rw [r1, Oper.upon_value, dI']
  refine hk1 _ _ ?_
  refine wpList_step fun k2 hk2 => ?_
  simp only [Region.wanted, gF, if_true]
  unfold Oper.wp
  have r2 : ∀ a1 : Act, (execOp a1.eval oF).run X.P w = .ok (.value (.func fn #[] (caps.map a1.eval))) w := fun a1 => by
    unfold execOp
    rw [hF]
    refine val1 ?_
    simp [Instr.makeFunc]
  rw [r2, Oper.upon_value, dF']
  refine hk2 _ _ ?_
  refine wpList_step fun k3 hk3 => ?_
  simp only [Region.wanted, gC, if_true]
  unfold Oper.wp
  have l1 : dI < a.tmps.size := by rw [hs.sz]; exact Nat.le_of_ble_eq_true d1
  have l2 : dF < a.tmps.size := by rw [hs.sz]; exact Nat.le_of_ble_eq_true d2
  have hne' : dI ≠ dF := Nat.ne_of_beq_eq_false hne
  obtain ⟨fnn, f1, f2, f3⟩ := hb
  generalize hcap : caps.map (Act.eval _) = cs
  have r3 : (execOp ((a.put (some dI) (.iface T (.slice p n cp))).put (some dF) (.func fn #[] cs)).eval oC).run X.P w = .ok (.enter fS #[.iface T (.slice p n cp), .func fn #[] cs]) w := by
    unfold execOp
    rw [hC]
    show (do let d ← resolve _ _ oC.type; invoke d.target d.args : Sem Next).run X.P w = _
    simp only [resolve]
    show (do let d ← Deferred.ofValue (Value.func (.func fS) #[] #[]) _; invoke d.target d.args : Sem Next).run X.P w = _
    simp only [Deferred.ofValue]
    rw [bind_ok (show (pure _ : Sem Deferred).run X.P w = .ok _ w from rfl)]
    simp only [invoke, Array.empty_append, Array.append_empty]
    unfold callFunc
    rw [bind_ok (show program.run X.P w = .ok X.P w from rfl)]
    simp only [f1, f3]
    have : fnn.body.isNone = false := by cases hfb : fnn.body <;> simp_all
    simp only [this]
    have e1 : ((a.put (some dI) (.iface T (.slice p n cp))).put (some dF) (.func fn #[] cs)).eval (.tmp dI) = .iface T (.slice p n cp) := by
      show (((a.tmps.setIfInBounds dI _).setIfInBounds dF _).getD dI undef) = _
      simp [Array.getD, l1, l2, Array.getElem_setIfInBounds, Ne.symm hne']
    have e2 : ((a.put (some dI) (.iface T (.slice p n cp))).put (some dF) (.func fn #[] cs)).eval (.tmp dF) = .func fn #[] cs := by
      show (((a.tmps.setIfInBounds dI _).setIfInBounds dF _).getD dF undef) = _
      simp [Array.getD, l2, Array.getElem_setIfInBounds]
    simp only [List.map_toArray, List.map_cons, List.map_nil, e1, e2]
    rfl
  rw [r3, Oper.upon_enter]
  refine (hS p cp fn #[] cs w).mono ?_
  rintro e' w' ⟨rfl, os, rfl⟩
  rw [dC']
  refine hk3 _ _ ?_
  show c.wp X.P _ _ _
  refine h.out K F0 H0 μ0 F μ _ _ ⟨hs.le, hs.ext, hs.hs.grown (grow_by w os), ?_, by simp [Act.put, hs.sz], hs.df, hs.n0⟩
  exact TSat.put_u (TSat.put_u (TSat.put_u hs.tp))
end Go.Am
end
