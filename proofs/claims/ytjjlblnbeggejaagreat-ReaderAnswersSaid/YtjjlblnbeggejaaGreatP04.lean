/- Contracts, lemmas; no condition. -/
import Derived.Test.YtjjlblnbeggejaaGreatP03
import Derived.Laws.AppendOwnNone
set_option linter.all false
section
namespace Go.Am
variable {va : Bool} {s : S} {v : Value} {z : List Z} {es : List MapEntry} {x : Key} {f : Nat → C} {ck j : Nat} {ns : List Prop}
def updK (ks : List Key) (key : Key) : List Key :=
 match memK ks key with
 | true => ks
 | false => ks ++ [key]
def updV (val : Key → Nat → C) (key : Key) (f : Nat → C) : Key → Nat → C := fun k j => if k = key then f j else val k j
def elV (va : Bool) (s : S) : Option (List C) :=
 match va, s with
 | true, .a ys => some ys
 | false, .c y => some [y]
 | _, _ => none
theorem Qui {F : Mem} {H : List O} {μ : Nat → Value} {ys : List C} (h : elV va s = some ys) (hi : ys.all C.imm = true) (hv : RepS F H μ s v) : RepV F va ys.length (lget ys) v := by
 unfold elV at h
 split at h
 ·cases h
  obtain ⟨cs, rfl, h1, h2⟩ := hv
  refine ⟨fun _ => ⟨cs, rfl⟩, fun e => (by cases e), h1, fun j hj => ?_⟩
  have hg : getL ys j = some ys[j] := by rw [Qc]; simp [hj]
  obtain ⟨x, x1, x2⟩ := h2 j _ hg
  refine ⟨x, x1, ?_⟩
  have := Qcn (Qde hi hg) x2
  simpa [lget, hg] using this
 ·cases h
  rename_i y
  have ho := RepC.one y v hv
  refine ⟨fun e => (by cases e), fun _ => ho, ?_, fun j hj => ?_⟩
  ·cases v <;> simp_all [Value.cells, Value.oneCell']
  ·have : j = 0 := by simp at hj; omega
   subst this
   refine ⟨v, by cases v <;> simp_all [Value.cells, Value.oneCell'], ?_⟩
   have hi' : y.imm = true := by simpa using hi
   simpa [lget, getL] using Qcn hi' hv
 ·cases h
theorem MRep.put {F : Mem} {sh : KS} {ks : List Key} {val : Key → Nat → C} (hr : MRep F sh z va ks val es) (hx : x.sh = sh) (hv : RepV F va z.length f v) :
  (memK ks x = false → ∀ c, MRep F sh z va (updK ks x) (updV val x f) (es ++ [⟨x.toV, v, c⟩])) ∧ (∀ j e, ks[j]? = some x → es[j]? = some e → MRep F sh z va (updK ks x) (updV val x f) (es.set j { e with key := x.toV, val := v })) := by
 have hlen : es.length = ks.length := by
  have := QxK List.length hr.keys
  simpa using this
 constructor
 ·intro hm c
  have hnot : x ∉ ks := fun h => by rw [memK_iff.2 h] at hm; cases hm
  simp only [updK, hm]
  refine ⟨?_, ?_, ?_, ?_, ?_⟩
  ·rw [List.nodup_append]
   exact ⟨hr.nd, by simp, fun a ha b hb => by simp at hb; subst hb; exact fun e => hnot (e ▸ ha)⟩
  ·intro k hk
   rcases Qyc.1 hk with hk | hk
   ·exact hr.shp k hk
   ·simp at hk; subst hk; exact hx
  ·rw [List.map_append, List.map_append, hr.keys]; rfl
  ·intro i e k h1 h2
   by_cases c : i < ks.length
   ·rw [QxS om] at h1
    rw [QxS c] at h2
    have := hr.vals i e k h1 h2
    have hne : k ≠ x := fun q => hnot (q ▸ Qx8 h2)
    have e1 : updV val x f k = val k := by funext j; simp [updV, hne]
    rw [e1]; exact this
   ·rw [QxY om] at h1
    rw [QxY om] at h2
    have hi : i - ks.length = 0 := by
     rcases Qx3 (i - ks.length) with h | h
     ·exact h
     ·rw [QyV (by simp; omega)] at h2; cases h2
    rw [hi] at h2
    rw [show i - es.length = 0 by omega] at h1
    simp only [QyF, Qxv] at h1 h2
    subst h1 h2
    have e1 : updV val x f x = f := by funext j; simp [updV]
    rw [e1]; exact hv
  ·intro k hs hk j hj
   have : k ∉ ks ∧ k ≠ x := ⟨fun h => hk (by simp [h]), fun h => hk (by simp [h])⟩
   simpa [updV, this.2] using hr.none k hs this.1 j hj
 ·intro j e hj he
  have hin : x ∈ ks := Qx8 hj
  simp only [updK, memK_iff.2 hin]
  refine ⟨hr.nd, hr.shp, ?_, ?_, ?_⟩
  ·rw [List.map_set, hr.keys]
   refine List.ext_getElem? fun i => ?_
   by_cases c : i = j
   ·subst c
    have hlt := (QxU.1 hj).1
    rw [List.getElem?_set_self (by simpa using hlt), Qyx, hj]; rfl
   ·rw [Qym (QyL c)]
  ·intro i e' k h1 h2
   by_cases c : i = j
   ·subst c
    rw [hj] at h2
    cases h2
    rw [List.getElem?_set_self (by have := (QxU.1 he).1; exact this)] at h1
    cases h1
    have e1 : updV val x f x = f := by funext j; simp [updV]
    rw [e1]; exact hv
   ·rw [Qym (QyL c)] at h1
    have hne : k ≠ x := by
     intro q
     subst q
     exact c ((List.getElem?_inj (by have := (QxU.1 h2).1; exact this) hr.nd).1 (by rw [h2, hj]))
    have e1 : updV val x f k = val k := by funext j; simp [updV, hne]
    rw [e1]; exact hr.vals i e' k h1 h2
  ·intro k hs hk i hi
   have hne : k ≠ x := fun q => hk (q ▸ hin)
   simpa [updV, hne] using hr.none k hs hk i hi
theorem Stp.push (h : Stp es ck) {k : Value} : Stp (es ++ [⟨k, v, ck⟩]) (ck + 1) := by
 refine ⟨fun x hx => ?_, ?_⟩
 ·rcases Qyc.1 hx with hx | hx
  ·exact Nat.lt_succ_of_lt (h.1 x hx)
  ·simp at hx; subst hx; exact Nat.lt_succ_self _
 ·rw [List.map_append, List.nodup_append]
  refine ⟨h.2, by simp, fun a ha b hb => ?_⟩
  obtain ⟨x, hx, rfl⟩ := Qyj.1 ha
  simp at hb; subst hb
  exact Nat.ne_of_lt (h.1 x hx)
theorem Stp.set {es : List MapEntry} {ck j : Nat} (h : Stp es ck) {e : MapEntry} (he : es[j]? = some e) {k v : Value} : Stp (es.set j { e with key := k, val := v }) ck := by
 have hm : (es.set j { e with key := k, val := v }).map (·.born) = es.map (·.born) := by
  rw [List.map_set]
  refine List.ext_getElem? fun i => ?_
  by_cases c : i = j
  ·subst c
   have hlt := (QxU.1 he).1
   rw [List.getElem?_set_self (by simpa using hlt), Qyx, he]; rfl
  ·rw [Qym (QyL c)]
 refine ⟨fun x hx => ?_, by rw [hm]; exact h.2⟩
 have : x.born ∈ es.map (·.born) := by rw [← hm]; exact QyJ hx
 obtain ⟨y, hy, e⟩ := Qyj.1 this
 rw [← e]; exact h.1 y hy
theorem Stp.erase (h : Stp es ck) : Stp (es.eraseIdx j) ck := by
 refine ⟨fun x hx => h.1 x (List.mem_of_mem_eraseIdx hx), ?_⟩
 exact (((List.eraseIdx_sublist es j).map (·.born)).nodup h.2)
theorem Qpp {es : Array MapEntry} {f : MapEntry → MapEntry} {e : MapEntry} (h : es.toList[j]? = some e) : (es.modify j f).toList = es.toList.set j (f e) := by
 have hlt := (QxU.1 h).1
 refine List.ext_getElem? fun i => ?_
 by_cases c : i = j
 ·subst c
  rw [List.getElem?_set_self hlt]
  simp only [Array.toList_modify, List.getElem?_modify, h]
  simp
 ·rw [Qym (QyL c)]
  simp only [Array.toList_modify, List.getElem?_modify]
  simp [QyL c]
section
variable {P : Program} {Γ : Env} (hΓ : Qw P Γ) {K : Keep} {F : Mem} {H H' : List O} {μ : Nat → Value} {w : World} {t k e : Nat} {sh : KS} {te : TI} {id : Nat} {ks : List Key} {val : Key → Nat → C} {key : Key}
theorem Qf3 (hw : HSat K F H μ w) (hg : getL H id = some (.mp sh z va ks val)) {b : Nat} (hb : μ id = .map (some b)) {es : Array MapEntry} (hbl : w.heap[b]? = some (.map es ck)) {ks' : List Key} {val' : Key → Nat → C} {es' : Array MapEntry} {ck' : Nat}
  (hr : MRep F sh z va ks' val' es'.toList) (hst : Stp es'.toList ck') (hset : setL H id (.mp sh z va ks' val') = some H') : HSat K F H' μ { w with heap := w.heap.setIfInBounds b (.map es' ck') } ∧ Ext H μ H' μ := by
 obtain ⟨e1, e2⟩ := Qaz hset
 have hE : Ext H μ H' μ := Qek (fun id' o ho => by
  by_cases ee : id' = id
  ·subst ee
   rw [hg] at ho
   cases ho
   exact ⟨_, _, e1⟩
  ·rw [← e2 id' ee] at ho
   cases o with
   | vr c' => exact ⟨c', ho⟩
   | arr e es n g => exact ⟨g, ho⟩
   | dead => trivial
   | mp sh z va ks val => exact ⟨ks, val, ho⟩)
 have hlt : b < w.heap.size := (QxH.1 hbl).1
 have hgr : w.grownBy { w with heap := w.heap.setIfInBounds b (.map es' ck') } (some b) :=
  ⟨rfl, rfl, rfl, by simp, fun k _ hk => by simp [show b ≠ k from fun q => hk (by rw [q])]⟩
 have := hw.step id _ (μ id) (row := some b) e1 e2 (by rw [Qy]; exact hE) hgr (fun k hk => by cases hk; exact ⟨⟨_, hg, by simp⟩, by rw [hb]; rfl⟩) (fun k hk => .inl ⟨⟨_, hg, by simp⟩, hk⟩) (by
  rw [Qy]
  exact ⟨b, es', ck', hb, by simp [hlt], hr, hst⟩)
 rw [Qy] at this
 exact ⟨this, hE⟩
include hΓ
theorem Qus (hw : HSat K F H μ w) (hm : QdH Γ t = some (sh, k, e, te)) (hg : getL H id = some (.mp sh te.zero te.agg ks val)) {x : Value} (hx : RepC F H μ (.mpr id) x) (hk : key.sh = sh) (hv : RepV F te.agg te.zero.length f v)
  (hset : setL H id (.mp sh te.zero te.agg (updK ks key) (updV val key f)) = some H') :
  ∃ w', (Instr.mapUpdate t x key.toV v).run P w = .ok () w' ∧ HSat K F H' μ w' ∧ Ext H μ H' μ := by
 obtain ⟨hu, hkl, hte⟩ := Qf4 hΓ hm
 obtain ⟨_, b, m1, rfl⟩ := hx
 obtain ⟨b', es, ck, m2, m3, m4, m5⟩ := hw.ob id _ hg
 rw [m1] at m2
 cases m2
 obtain ⟨p1, p2⟩ := m4.put hk hv
 rcases m4.find hkl w hk with ⟨q1, q2⟩ | ⟨j, en, q1, q2, q3, q4, q5, q6⟩
 ·obtain ⟨s1, s2⟩ := Qf3 (es' := es.push ⟨key.toV, v, ck⟩) (ck' := ck + 1) hw hg m1 m3 (by rw [Array.toList_push]; exact p1 q1 ck) (by rw [Array.toList_push]; exact m5.push) hset
  refine ⟨_, ?_, s1, s2⟩
  unfold Instr.mapUpdate
  rw [Qg (run_underlying hu w)]
  simp only
  rw [Qg (MapKept.run_getObj_map m3)]
  simp only
  rw [Qg (hkl.check w _ key hk), Qg q2]
  simp only
  exact MapKept.run_setObj_map _ m3
 ·have hmod : (es.modify j fun e => { e with key := key.toV, val := v }).toList = es.toList.set j { en with key := key.toV, val := v } := Qpp q3
  obtain ⟨s1, s2⟩ := Qf3 (es' := es.modify j fun e => { e with key := key.toV, val := v }) (ck' := ck) hw hg m1 m3 (by rw [hmod]; exact p2 j en q4 q3) (by rw [hmod]; exact m5.set q3) hset
  refine ⟨_, ?_, s1, s2⟩
  unfold Instr.mapUpdate
  rw [Qg (run_underlying hu w)]
  simp only
  rw [Qg (MapKept.run_getObj_map m3)]
  simp only
  rw [Qg (hkl.check w _ key hk), Qg q2]
  simp only
  have hkey : ((es[j]?).map (·.key)).getD key.toV = key.toV := by
   rw [← Qyt, q3]; exact q5
  rw [hkey, Qg (hkl.stays w key hk)]
  exact MapKept.run_setObj_map _ m3
end
def delV (te : TI) (val : Key → Nat → C) (key : Key) : Key → Nat → C := fun k j => if k = key then lget (QN te) j else val k j
def delK (ks : List Key) (key : Key) : List Key := ks.filter fun k => decide (k ≠ key)
theorem QwM (F : Mem) (z : Z) : RepF F z.toC z.toV := by
 cases z <;> first | rfl | exact ⟨rfl, by unfold maxLen; decide⟩
theorem QtC {te : TI} (h : j < te.zero.length) : ∃ x, te.zero[j]? = some x ∧ lget (QN te) j = x.toC := by
 refine ⟨te.zero[j], by simp [h], ?_⟩
 simp [lget, QN, Qc, h]
theorem QiN {ks : List Key} {key : Key} (h : key ∉ ks) : delK ks key = ks := by
 unfold delK
 exact List.filter_eq_self.2 fun a ha => by simp; exact fun q => h (q ▸ ha)
theorem QeL : ∀ {ks : List Key} {j : Nat} {key : Key}, ks.Nodup → ks[j]? = some key → ks.eraseIdx j = delK ks key
 | [], j, key, _, h => by simp at h
 | x :: r, 0, key, hn, h => by
  simp only [QyF, Qxv] at h
  subst h
  have := (Qy4.1 hn).1
  simp only [List.eraseIdx_cons_zero]
  unfold delK
  rw [List.filter_cons_of_neg (by simp)]
  exact (QiN this).symm
 | x :: r, j + 1, key, hn, h => by
  have h' : r[j]? = some key := by simpa using h
  have hne : x ≠ key := fun q => (Qy4.1 hn).1 (q ▸ Qx8 h')
  simp only [List.eraseIdx_cons_succ]
  rw [QeL (Qy4.1 hn).2 h']
  unfold delK
  rw [List.filter_cons_of_pos (by simp [hne])]
theorem MRep.del {F : Mem} {sh : KS} {te : TI} {ks : List Key} {val : Key → Nat → C} (hr : MRep F sh te.zero va ks val es) :
  (memK ks x = false → MRep F sh te.zero va (delK ks x) (delV te val x) es) ∧ (∀ j, ks[j]? = some x → MRep F sh te.zero va (delK ks x) (delV te val x) (es.eraseIdx j)) := by
 have hnone : ∀ k, k.sh = sh → k ∉ delK ks x → ∀ j, j < te.zero.length → ∃ q, te.zero[j]? = some q ∧ RepF F (delV te val x k j) q.toV := by
  intro k hs hk j hj
  by_cases c : k = x
  ·subst c
   obtain ⟨q, q1, q2⟩ := QtC hj
   refine ⟨q, q1, ?_⟩
   simp only [delV, Qxt, q2]
   exact QwM F q
  ·have : k ∉ ks := fun h => hk (by simp [delK, h, c])
   simpa [delV, c] using hr.none k hs this j hj
 constructor
 ·intro hm
  have hnot : x ∉ ks := fun h => by rw [memK_iff.2 h] at hm; cases hm
  have e := QiN hnot
  refine ⟨by rw [e]; exact hr.nd, by rw [e]; exact hr.shp, by rw [e]; exact hr.keys, fun i en k h1 h2 => ?_, hnone⟩
  rw [e] at h2
  have hne : k ≠ x := fun q => hnot (q ▸ Qx8 h2)
  have e1 : delV te val x k = val k := by funext j; simp [delV, hne]
  rw [e1]; exact hr.vals i en k h1 h2
 ·intro j hj
  have e := QeL hr.nd hj
  refine ⟨by rw [← e]; exact hr.nd.eraseIdx j, fun k hk => hr.shp k (List.mem_filter.1 hk).1, ?_, fun i en k h1 h2 => ?_, hnone⟩
  ·rw [← e]
   have e2 : ∀ {α β : Type} (f : α → β) (l : List α), (l.eraseIdx j).map f = (l.map f).eraseIdx j := fun f l => by
    refine List.ext_getElem? fun i => ?_
    rw [Qyx, List.getElem?_eraseIdx, List.getElem?_eraseIdx]
    split <;> simp
   rw [e2, e2, hr.keys]
  ·have hne : k ≠ x := by
    have := Qx8 h2
    simp [delK] at this
    exact this.2
   have e1 : delV te val x k = val k := by funext j; simp [delV, hne]
   rw [e1]
   rw [← e] at h2
   rw [List.getElem?_eraseIdx] at h1 h2
   split at h1
   ·rename_i c
    rw [Qxt c] at h2
    exact hr.vals i en k h1 h2
   ·rename_i c
    rw [Qxu c] at h2
    exact hr.vals (i + 1) en k h1 h2
def QlT (Γ : Env) (H : List O) (t : Nat) : Option (List Prop × S × List O) :=
 match QdH Γ t with
 | some (sh, _, _, te) => some ([], .c (.mpr H.length), H ++ [.mp sh te.zero te.agg [] fun _ j => lget (QN te) j])
 | none => none
def Qhm (Γ : Env) (ts : Ts) (H : List O) (t : Nat) (m k x : Operand) : Option (List Prop × S × List O) :=
 match QdH Γ t with
 | some (sh, _, _, te) => match bare (opnd ts m) with
  | (p, .c (.mpr id)) => match bare (opnd ts k) with
   | (q, s) => match keyS s with
    | some key => match shB sh key with
     | true => match getL H id with
      | some (.mp sh' z va ks vl) => match mpB sh te sh' z va with
       | true => match bare (opnd ts x) with
        | (r, y) => match elV te.agg y with
         | some ys => match Nat.beq ys.length te.zero.length && ys.all C.imm with
          | true => match setL H id (.mp sh te.zero te.agg (updK ks key) (updV vl key (lget ys))) with
           | some H' => some (p ++ q ++ r, .u, H')
           | none => none
          | false => none
         | none => none
       | false => none
      | _ => none
     | false => none
    | none => none
  | _ => none
 | none => none
def QlP (Γ : Env) (ts : Ts) (H : List O) (t : Nat) (m k : Operand) : Option (List Prop × S × List O) :=
 match QdH Γ t with
 | some (sh, _, _, te) => match bare (opnd ts m) with
  | (p, .c (.mpr id)) => match bare (opnd ts k) with
   | (q, s) => match keyS s with
    | some key => match shB sh key with
     | true => match getL H id with
      | some (.mp sh' z va ks vl) => match mpB sh te sh' z va with
       | true => match setL H id (.mp sh te.zero te.agg (delK ks key) (delV te vl key)) with
        | some H' => some (p ++ q, .u, H')
        | none => none
       | false => none
      | _ => none
     | false => none
    | none => none
  | _ => none
 | none => none
section
variable {P : Program} {Γ : Env} (hΓ : Qw P Γ) {K : Keep} {F : Mem} {H H' : List O} {μ : Nat → Value} {w : World} {t : Nat} {ts : Ts} {a : Act}
include hΓ
omit hΓ in
theorem Qtf (hw : HSat K F H μ w) (h : QlT Γ H t = some (ns, s, H')) :
  ∃ r w' μ', (Instr.makeMap t none).run P w = .ok r w' ∧ HSat K F H' μ' w' ∧ Ext H μ H' μ' ∧ RepS F H' μ' s r := by
 unfold QlT at h
 split at h
 ·rename_i sh k e te hm
  cases h
  refine ⟨.map (some w.heap.size), w.alloc (.map #[] 0), upd μ H.length (.map (some w.heap.size)), ?_, hw.push _ _ (World.grownBy_alloc w _ none) (fun b hb => by cases hb; exact QxB _) ?_, Ext.push _ _ _ _, ⟨_, _, _, _, _, QW _ _⟩, w.heap.size, by simp [upd], rfl⟩
  ·simp [Instr.makeMap, newObj, Sem.run, Result.andThen]
  ·refine ⟨w.heap.size, #[], 0, by simp [upd], heap_alloc_new w _, ⟨by simp, by simp, rfl, fun i e k h => by simp at h, fun k _ _ j hj => ?_⟩, by simp [Stp]⟩
   obtain ⟨q, q1, q2⟩ := QtC hj
   exact ⟨q, q1, by rw [q2]; exact QwM F q⟩
 ·cases h
theorem QmU (hw : HSat K F H μ w) (hT : TSat F H μ ts a.tmps) {m k x : Operand} (h : Qhm Γ ts H t m k x = some (ns, s, H')) (hn : ∀ q ∈ ns, q) :
  ∃ w', (Instr.mapUpdate t (a.eval m) (a.eval k) (a.eval x)).run P w = .ok () w' ∧ HSat K F H' μ w' ∧ Ext H μ H' μ ∧ s = .u := by
 have O := Q9 hT
 have B : ∀ {x : Operand} {p : List Prop} {s' : S}, bare (opnd ts x) = (p, s') → (∀ q ∈ p, q) → RepS F H μ s' (a.eval x) := fun hb hp => Qaq (O _) hb hp
 unfold Qhm at h
 split at h
 ·rename_i sh kt e te hm
  split at h
  ·rename_i p id hb1
   split at h
   rename_i q s' hb2
   split at h
   ·rename_i key hkey
    split at h
    ·rename_i hsh
     split at h
     ·rename_i sh' z va ks vl hg
      split at h
      ·rename_i hmp
       split at h
       rename_i r y hb3
       split at h
       ·rename_i ys hys
        split at h
        ·rename_i hl
         rw [QxA] at hl
         split at h
         ·rename_i H'' hset
          cases h
          obtain ⟨rfl, rfl, rfl⟩ := Qml hmp
          have hk := Qj5 hkey (B hb2 (Qb (Qd hn)))
          have hv := Qui hys hl.2 (B hb3 (Qb hn))
          rw [QxD hl.1] at hv
          obtain ⟨w', r1, r2, r3⟩ := Qus hΓ hw hm hg (B hb1 (Qd (Qd hn))) (Qx4 hsh) hv hset
          exact ⟨w', by rw [hk]; exact r1, r2, r3, rfl⟩
         ·cases h
        ·cases h
       ·cases h
      ·cases h
     ·cases h
    ·cases h
   ·cases h
  ·cases h
 ·cases h
theorem Qsj (hw : HSat K F H μ w) (hT : TSat F H μ ts a.tmps) {ty t2 : Nat} {m k : Operand} (h : QlP Γ ts H t m k = some (ns, s, H')) (hn : ∀ q ∈ ns, q) :
  ∃ v w', (Builtin.delete_ #[t, t2] ty #[a.eval m, a.eval k]).run P w = .ok v w' ∧ HSat K F H' μ w' ∧ Ext H μ H' μ ∧ s = .u := by
 have O := Q9 hT
 have B : ∀ {x : Operand} {p : List Prop} {s' : S}, bare (opnd ts x) = (p, s') → (∀ q ∈ p, q) → RepS F H μ s' (a.eval x) := fun hb hp => Qaq (O _) hb hp
 unfold QlP at h
 split at h
 ·rename_i sh kt e te hm
  split at h
  ·rename_i p id hb1
   split at h
   rename_i q s' hb2
   split at h
   ·rename_i key hkey
    split at h
    ·rename_i hsh
     split at h
     ·rename_i sh' z va ks vl hg
      split at h
      ·rename_i hmp
       split at h
       ·rename_i H'' hset
        cases h
        obtain ⟨rfl, rfl, rfl⟩ := Qml hmp
        have hks := Qj5 hkey (B hb2 (Qb hn))
        obtain ⟨hu, hkl, hte⟩ := Qf4 hΓ hm
        have hx := B hb1 (Qd hn)
        obtain ⟨_, b, m1, hx⟩ := hx
        obtain ⟨b', es, ck, m2, m3, m4, m5⟩ := hw.ob id _ hg
        rw [m1] at m2
        cases m2
        have hk : key.sh = sh' := Qx4 hsh
        obtain ⟨d1, d2⟩ := m4.del (x := key)
        rw [hx, hks]
        rcases m4.find hkl w hk with ⟨q1, q2⟩ | ⟨j, en, q1, q2, q3, q4, q5, q6⟩
        ·obtain ⟨s1, s2⟩ := Qf3 (es' := es) (ck' := ck) hw hg m1 m3 (d1 q1) m5 hset
         refine ⟨.tuple #[], _, ?_, s1, s2, rfl⟩
         unfold Builtin.delete_
         simp only [QyU, QyF, List.getElem?_cons_succ]
         rw [Qg (run_underlying hu w)]
         simp only
         rw [Qg (MapKept.run_getObj_map m3)]
         simp only
         rw [Qg (hkl.check w _ key hk), Qg q2]
         simp only
         rw [Qg (MapKept.run_setObj_map _ m3)]
         rfl
        ·obtain ⟨s1, s2⟩ := Qf3 (es' := es.eraseIdxIfInBounds j) (ck' := ck) hw hg m1 m3 (by
          have hlt := (QxU.1 q3).1
          rw [Array.toList_eraseIdxIfInBounds]
          exact d2 j q4) (by rw [Array.toList_eraseIdxIfInBounds]; exact m5.erase) hset
         refine ⟨.tuple #[], _, ?_, s1, s2, rfl⟩
         unfold Builtin.delete_
         simp only [QyU, QyF, List.getElem?_cons_succ]
         rw [Qg (run_underlying hu w)]
         simp only
         rw [Qg (MapKept.run_getObj_map m3)]
         simp only
         rw [Qg (hkl.check w _ key hk), Qg q2]
         simp only
         rw [Qg (MapKept.run_setObj_map _ m3)]
         rfl
       ·cases h
      ·cases h
     ·cases h
    ·cases h
   ·cases h
  ·cases h
 ·cases h
end
end Go.Am
end

section
namespace Go.Am
variable {F : Mem} {H H' : List O} {μ : Nat → Value} {w : World} {es m t n e ty : Nat} {g : Nat → Nat → C} {v z u : Value} {K : Keep} {y c : C} {ns : List Prop} {P : Program} {i te : TI} {x : TypeInfo}
def srcK (es : Nat) (H : List O) (y : C) : Option (List Prop × Nat × (Nat → Nat → C)) :=
 match y with
 | .nils => some ([], 0, fun _ _ => .junk)
 | .isl es' m g _ => match Nat.beq es' es with
  | true => some ([], m, g)
  | false => none
 | .sl id es' len tot _ => match Nat.beq es' es with
  | true => match getL H id with
   | some (.arr _ _ n g) => some ([tot = n], len, g)
   | _ => none
  | false => none
 | _ => none
structure Src (F : Mem) (H : List O) (μ : Nat → Value) (w : World) (es m : Nat) (g : Nat → Nat → C) (v : Value) (news : List Value) : Prop where
 le : m ≤ maxLen
 len : news.length = m * es
 val : (v = .slice none 0 0 ∧ m = 0) ∨ ∃ a c, v = .slice (some a) m c ∧ ∀ (j : Nat) u, news[j]? = some u → w.cell? (a.add j) = some u
 rep : ∀ i, i < m → ∀ j, j < es → ∃ u, news[i * es + j]? = some u ∧ RepC F H μ (g i j) u
theorem Src.one {F : Mem} {H : List O} {μ : Nat → Value} {w : World} {es m : Nat} {g : Nat → Nat → C} {v : Value} {news : List Value} (h : Src F H μ w es m g v news) : ∀ u ∈ news, u.oneCell' = true := by
 intro u hu
 obtain ⟨q, hq, e⟩ := List.mem_iff_getElem.1 hu
 rw [h.len] at hq
 have hes : 0 < es := by
  rcases Qx3 es with z | z
  ·subst z; simp at hq
  ·exact z
 have h1 : q / es < m := (Nat.div_lt_iff_lt_mul hes).2 hq
 obtain ⟨u', u1, u2⟩ := h.rep (q / es) h1 (q % es) (Nat.mod_lt _ hes)
 rw [Nat.div_add_mod' q es] at u1
 rw [Qyl (by rw [h.len]; exact hq), e] at u1
 cases u1
 exact RepC.one _ _ u2
theorem Src.first {news : List Value} (h : Src F H μ w es m g v news) (P : Program) (w' : World) (hw : ∀ a, w'.cell? a = w.cell? a)
  (k : Nat) (hk : k ≤ m) : (Builtin.firstCells es k v).run P w' = .ok (news.take (k * es)).toArray w' := by
 rcases h.val with ⟨rfl, rfl⟩ | ⟨a, c, rfl, hc⟩
 ·have : k = 0 := by omega
  subst this
  have : news = [] := Qyg (by rw [h.len]; simp)
  subst this
  simp [Builtin.firstCells]
 ·have hlen : (news.take (k * es)).length = k * es := by
   rw [QxO, h.len]; exact QyZ (QxF es hk)
  exact run_firstCells_some w' es k a m c _ hlen (fun j u hu => by
   rw [hw]
   refine hc j u ?_
   rw [Qye] at hu
   split at hu
   ·exact hu
   ·cases hu)
theorem Qfl (hw : HSat K F H μ w) 
  (hy : RepC F H μ y v) (h : srcK es H y = some (ns, m, g)) (hn : ∀ q ∈ ns, q) : ∃ news, Src F H μ w es m g v news := by
 cases y with
 | nils =>
  simp only [srcK, Qxv, QxI] at h
  obtain ⟨_, rfl, rfl⟩ := h
  exact ⟨[], Qxx _, by simp, .inl ⟨hy, rfl⟩, fun i hi => by omega⟩
 | isl es' n get tight =>
  simp only [srcK] at h
  cases hb : Nat.beq es' es with
  | false => simp [hb] at h
  | true =>
   have : es' = es := QxD hb
   subst this
   simp only [hb, Qxv, QxI] at h
   obtain ⟨_, rfl, rfl⟩ := h
   obtain ⟨a, cap, rfl, q1, q2, q3, q3', q4⟩ := hy
   by_cases hn0 : n = 0
   ·subst hn0
    cases a with
    | none => exact ⟨[], Qxx _, by simp, .inl ⟨by rw [q3' rfl], rfl⟩, fun i hi => by omega⟩
    | some a => exact ⟨[], Qxx _, by simp, .inr ⟨a, cap, rfl, fun j u hu => by simp at hu⟩, fun i hi => by omega⟩
   ·rcases q4 with q4 | ⟨b, off, rfl, hc⟩
    ·exact absurd q4 hn0
    ·refine ⟨(List.range (n * es')).map fun q => (w.cell? ⟨b, off + q, none⟩).getD undef, q1, by simp, .inr ⟨⟨b, off, none⟩, cap, rfl, fun j u hu => ?_⟩, fun i hi j hj => ?_⟩
     ·have hj : j < n * es' := by have := (QxU.1 hu).1; simpa using this
      have hes : 0 < es' := by
       rcases Qx3 es' with z | z
       ·subst z; simp at hj
       ·exact z
      obtain ⟨x, x1, _⟩ := hc (j / es') ((Nat.div_lt_iff_lt_mul hes).2 hj) (j % es') (Nat.mod_lt _ hes)
      rw [Nat.add_assoc, Nat.div_add_mod' j es'] at x1
      have hcell : w.cell? ⟨b, off + j, none⟩ = some x := by
       unfold Mem.cell at x1
       cases hf : F b with
       | none => simp [hf] at x1
       | some o =>
        rw [hf] at x1
        cases o with
        | cells c T fz => rw [cell_of_row w b _ c T fz (hw.fr b _ hf)]; exact x1
        | _ => simp at x1
      simp [hj, hcell] at hu
      rw [QaS, hcell, hu]
     ·obtain ⟨x, x1, x2⟩ := hc i hi j hj
      have hlt : i * es' + j < n * es' := by
       have : i * es' + es' ≤ n * es' := by rw [← Qyu]; exact QxF es' hi
       omega
      have hcell : w.cell? ⟨b, off + (i * es' + j), none⟩ = some x := by
       rw [Nat.add_assoc] at x1
       unfold Mem.cell at x1
       cases hf : F b with
       | none => simp [hf] at x1
       | some o =>
        rw [hf] at x1
        cases o with
        | cells c T fz => rw [cell_of_row w b _ c T fz (hw.fr b _ hf)]; exact x1
        | _ => simp at x1
      exact ⟨x, by simp [hlt, hcell], RepF.toC H μ _ _ x2⟩
 | sl id es' len tot xq =>
  simp only [srcK] at h
  cases hb : Nat.beq es' es with
  | false => simp [hb] at h
  | true =>
   have : es' = es := QxD hb
   subst this
   obtain ⟨_, e, n, g', h1, h2, h3, h4⟩ := hy
   simp only [hb, h1, Qxv, QxI] at h
   obtain ⟨rfl, rfl, rfl⟩ := h
   have ht : tot = n := hn _ (by simp)
   obtain ⟨a, cap, m1, rfl, _⟩ := h4 ht
   obtain ⟨xs, o1, o2, o3, o4⟩ := hw.ob id _ h1
   have hln : len * es' ≤ n * es' := QxF es' om
   refine ⟨xs.take (len * es'), om, by rw [QxO, o1.1]; omega, ?_, fun i hi j hj => ?_⟩
   ·rcases o1.2 with ⟨q1, q2⟩ | ⟨b, cap', cur, q1, _⟩
    ·rw [m1] at q1
     simp only [Value.slice.injEq] at q1
     obtain ⟨rfl, _, rfl⟩ := q1
     have : len = 0 := by omega
     subst this
     exact .inl ⟨rfl, rfl⟩
    ·rw [m1] at q1
     simp only [Value.slice.injEq, true_and] at q1
     obtain ⟨rfl, rfl⟩ := q1
     refine .inr ⟨⟨b, 0, none⟩, cap, rfl, fun j u hu => ?_⟩
     have := o1.cells (g := b) (by rw [m1]; rfl) j u (by
      rw [Qye] at hu
      split at hu
      ·exact hu
      ·cases hu)
     exact this
   ·obtain ⟨u, u1, u2⟩ := o3 i om j hj
    refine ⟨u, ?_, u2⟩
    have : i * es' + es' ≤ len * es' := by rw [← Qyu]; exact QxF es' hi
    rw [Qye, Qxt om]
    exact u1
 | _ => simp [srcK] at h
def appP (e : Nat) (te : TI) (H : List O) (x : C) (src : List Prop × Nat × (Nat → Nat → C)) : Option (List Prop × C × List O) :=
 match src with
 | (ns, m, g2) => match x with
  | .nils => some (ns ++ [m * te.bytes ≤ 140737488355328], .sl H.length te.size m m false, H ++ [.arr e te.size m g2])
  | .isl es n g tight => match Nat.beq es te.size with
   | true => some (ns ++ [tight = true, 1 ≤ m, n + m ≤ 9223372036854775807, (n + m) * te.bytes ≤ 140737488355328], .sl H.length te.size (n + m) (n + m) false, H ++ [.arr e te.size (n + m) (appG g n g2)])
   | false => none
  | .sl id es len tot _ => match Nat.beq es te.size with
   | true => match getL H id with
    | some (.arr e' _ n g) => match Nat.beq e' e with
     | true => match setL H id (.arr e te.size (n + m) (appG g n g2)) with
      | some H' => some (ns ++ [tot = n, len = n, n + m ≤ 9223372036854775807, (n + m) * te.bytes ≤ 140737488355328], .sl id te.size (n + m) (n + m) false, H')
      | none => none
     | false => none
    | _ => none
   | false => none
  | _ => none
def appK (e : Nat) (te : TI) (H : List O) (x y : C) : Option (List Prop × C × List O) :=
 match srcK te.size H y with
 | some src => appP e te H x src
 | none => none
def srcO (es : Nat) (H : List O) (id es' off len tot : Nat) : Option (List Prop × Nat × (Nat → Nat → C)) :=
 match Nat.beq es' es with
 | true => match getL H id with
  | some (.arr _ _ n g) => some ([tot = n], len, fun i j => g (off + i) j)
  | _ => none
 | false => none
def Qi1 (e : Nat) (te : TI) (H : List O) (x : C) (id es' off len tot : Nat) : Option (List Prop × C × List O) :=
 match srcO te.size H id es' off len tot with
 | some src => appP e te H x src
 | none => none
theorem QtN (hw : HSat K F H μ w) {id es' off len tot : Nat} 
  (hy : RepS F H μ (.so id es' off len tot) v) (h : srcO es H id es' off len tot = some (ns, m, g)) (hn : ∀ q ∈ ns, q) : ∃ news, Src F H μ w es m g v news := by
 simp only [srcO] at h
 cases hb : Nat.beq es' es with
 | false => simp [hb] at h
 | true =>
  have : es' = es := QxD hb
  subst this
  obtain ⟨a, cap, rfl, ha, e, n, g', h1, h2, h3, h4⟩ := hy
  simp only [hb, h1, Qxv, QxI] at h
  obtain ⟨rfl, rfl, rfl⟩ := h
  have ht : tot = n := hn _ (by simp)
  subst ht
  obtain ⟨xs, o1, o2, o3, o4⟩ := hw.ob id _ h1
  have hmul : (off + len) * es' ≤ tot * es' := QxF es' h3
  rw [Qyh] at hmul
  refine ⟨(xs.drop (off * es')).take (len * es'), om, by rw [QxO, Qyn, o1.1]; omega, ?_, fun i hi j hj => ?_⟩
  ·by_cases hl : len = 0
   ·subst hl
    cases a with
    | none => exact .inl ⟨by rw [ha rfl], rfl⟩
    | some a => exact .inr ⟨a, cap, rfl, fun j u hu => by simp at hu⟩
   ·obtain ⟨b, c, m1, rfl⟩ := (h4 rfl).resolve_left hl
    refine .inr ⟨_, cap, rfl, fun j u hu => ?_⟩
    rw [Qye] at hu
    split at hu
    ·rw [QyE] at hu
     have := o1.cells (g := b) (by rw [m1]; rfl) _ u hu
     rw [QaS] at this ⊢
     simpa using this
    ·cases hu
  ·obtain ⟨u, u1, u2⟩ := o3 (off + i) om j hj
   refine ⟨u, ?_, u2⟩
   have : i * es' + es' ≤ len * es' := by rw [← Qyu]; exact QxF es' hi
   rw [Qye, Qxt om, QyE]
   rw [Qyh] at u1
   rw [← Nat.add_assoc]
   exact u1
theorem QqH (ht : TIok P t i) : ∃ x z, P.info? t = some x ∧ x.size = i.size ∧ x.bytes = i.bytes ∧ x.zero = some z ∧ z.cells.size = i.zero.length := by
 obtain ⟨x, h1, h2, h3, z, h4, h5⟩ := ht.info
 exact ⟨x, z, h1, h2, h3, h4, by rw [← Qx7, h5]; simp⟩
theorem Qw6 (z : Z) : z.toV.oneCell' = true := by cases z <;> rfl
theorem QcH (ht : TIok P t i) (hx : P.info? t = some x) (hz : x.zero = some z) : ∀ u ∈ z.cells.toList, u.oneCell' = true := by
 obtain ⟨x', h1, h2, h3, z', h4, h5⟩ := ht.info
 rw [hx] at h1
 cases h1
 rw [hz] at h4
 cases h4
 rw [h5]
 intro u hu
 obtain ⟨q, _, rfl⟩ := Qyj.1 hu
 exact Qw6 q
theorem Qbq {zs : Array Value} (h : ∀ u ∈ zs.toList, u.oneCell' = true) : ∀ u ∈ (Builtin.zeroCells zs n).toList, u.oneCell' = true := by
 intro u hu
 simp only [Builtin.zeroCells, Array.toList_map, Qyj, Array.toList_range, List.mem_range] at hu
 obtain ⟨k, hk, rfl⟩ := hu
 have hp : 0 < zs.size := by
  rcases Qx3 zs.size with q | q
  ·rw [q] at hk; simp at hk
  ·exact q
 have hm := Nat.mod_lt k hp
 rw [getElem!_pos zs (k % zs.size) hm]
 exact h _ (Qy0 hm)
theorem Qbj {a b : Array Value} (h : ∀ u ∈ a.toList, u.oneCell' = true) (k : ∀ u ∈ b.toList, u.oneCell' = true) : ∀ u ∈ (a ++ b).toList, u.oneCell' = true := by
 intro u hu
 rw [QyO] at hu
 exact (Qyc.1 hu).elim (h u) (k u)
theorem Qke {xs : List Value} (ho : w.ownsRow 0 e es v n xs) (h : Sp w v) : ∀ u ∈ xs, u.oneCell' = true := by
 rcases ho.2 with ⟨rfl, rfl⟩ | ⟨b, cap, cur, rfl, _, q3, q4, q5, q6, q7⟩
 ·have : xs = [] := Qyg (by rw [ho.1]; simp)
  subst this; simp
 ·intro u hu
  rw [← q7] at hu
  exact h b cur e (0, 0) rfl q3 u (Qy9 hu)
theorem QbJ {t ty e : TypeId} (ht : P.underlying t = some (.slice e)) (hi : P.info? e = some x) (hz : x.zero = some z) (base : Option Addr) (n cap m : Nat) (v : Value) (hv : ∃ a c, v = .slice a m c)
  (old news : List Value) (ho : (Builtin.firstCells x.size n (.slice base n cap)).run P w.drew = .ok old.toArray w.drew) (hnw : (Builtin.firstCells x.size m v).run P w.drew = .ok news.toArray w.drew)
  (hgrow : cap < n + m) (h63 : n + m ≤ 9223372036854775807) (hb : (n + m) * x.bytes ≤ 140737488355328) :
  (Builtin.append_ #[t, t] ty #[.slice base n cap, v]).run P w =
   .ok (.slice (some ⟨w.heap.size, 0, none⟩) (n + m) (grownCap w (n + m) cap e)) (w.drew.alloc (.cells (old.toArray ++ news.toArray ++ Builtin.zeroCells z.cells (grownCap w (n + m) cap e - (n + m))) e)) := by
 obtain ⟨a, c, rfl⟩ := hv
 have hne : ¬ (n + m ≤ cap) := by omega
 have hq : Builtin.nextslicecap (n + m) cap * x.bytes ≤ 281474976710656 := by
  have h1 := nextslicecap_le hgrow
  have h2 : Builtin.nextslicecap (n + m) cap * x.bytes ≤ 2 * (n + m) * x.bytes := QxF _ h1
  rw [Nat.mul_assoc] at h2
  omega
 have h48' : ¬ (281474976710656 < Builtin.nextslicecap (n + m) cap * x.bytes) := by omega
 have h63'' : ¬ (9223372036854775807 < (n : Int) + (m : Int)) := by omega
 simp [Builtin.append_, run_underlying ht, sizeOf, typeInfo, zeroValue, hi, hz, Builtin.lenOf, hne, h63'', h48', ho, hnw, Question.forced, newRow, grownCap]
 congr 2
 rw [← Array.append_assoc]
 simp
set_option maxHeartbeats 2000000 in
theorem QoW (hw : HSat K F H μ w) (hu : P.underlying t = some (.slice e)) (hte : TIok P e te) (hzl : te.zero.length = te.size) (hpos : 0 < te.size)
  {x : C} {ns' : List Prop} {g2 : Nat → Nat → C} (hx : RepC F H μ x u) (hsrc : (∀ q ∈ ns', q) → ∃ news, Src F H μ w te.size m g2 v news) (h : appP e te H x (ns', m, g2) = some (ns, c, H')) (hn : ∀ q ∈ ns, q) :
  ∃ r w' μ', (Builtin.append_ #[t, t] ty #[u, v]).run P w = .ok r w' ∧ HSat K F H' μ' w' ∧ Ext H μ H' μ' ∧ RepC F H' μ' c r := by
  simp only [appP] at h
  obtain ⟨xi, z, i1, i2, i3, i4, i5⟩ := QqH hte
  have hzs : z.cells.size = te.size := by rw [i5, hzl]
  have own : ∀ (id n : Nat) (g : Nat → Nat → C) (old : List Value) (vv : Value) (H'' : List O), w.ownsRow 0 e te.size vv n old → Sp w vv → n ≤ maxLen →
    (∀ i, i < n → ∀ j, j < te.size → ∃ u, old[i * te.size + j]? = some u ∧ RepC F H μ (g i j) u) → n + m ≤ 9223372036854775807 → (n + m) * te.bytes ≤ 140737488355328 →
    (∀ q ∈ ns', q) → getL H'' id = some (.arr e te.size (n + m) (appG g n g2)) → (∀ i, i ≠ id → getL H'' i = getL H i) →
    (∀ v', (m = 0 → v' = vv) → Ext H μ H'' (upd μ id v')) → (∀ k, vv.ownBlock = some k → QS H μ id k) →
    ∃ r w' μ', (Builtin.append_ #[t, t] ty #[vv, v]).run P w = .ok r w' ∧ HSat K F H'' μ' w' ∧ Ext H μ H'' μ' ∧ RepC F H'' μ' (.sl id te.size (n + m) (n + m) false) r := by
   intro id n g old vv H'' hown hsp hnm hrep h63 hby hns hid hoth hE hob
   obtain ⟨news, hs⟩ := hsrc hns
   have key : ∃ v' w', (Builtin.append_ #[t, t] ty #[vv, v]).run P w = .ok v' w' ∧ w'.ownsRow 0 e te.size v' (n + m) (old ++ news) ∧ w.grownBy w' vv.ownBlock ∧ (m = 0 → v' = vv) ∧ (∀ b, blk v' = some b → vv.ownBlock = some b ∨ w.heap.size ≤ b) ∧ Sp w' v' := by
    rcases hs.val with ⟨rfl, rfl⟩ | ⟨a, cc, rfl, hc⟩
    ·have hnew : news = [] := Qyg (by rw [hs.len]; simp)
     subst hnew
     refine ⟨vv, w, ?_, by simpa using hown, ⟨rfl, rfl, rfl, QxB _, fun _ _ _ => rfl⟩, fun _ => rfl, fun b hb => .inl ?_, hsp⟩
     ·exact run_append_owned_none (P := P) (w := w) 0 t ty e xi te.size hu i1 vv n old hown
     ·rcases hown.2 with ⟨rfl, _⟩ | ⟨_, _, _, rfl, _⟩
      ·cases hb
      ·exact hb
    ·obtain ⟨v', w', r1, r2, r3, r4⟩ := run_append_own (P := P) w 0 t ty e xi z te.size te.bytes hu i1 i4 i2 i3 hzs hpos vv n old hown a m cc news hs.len hc hs.one (by unfold maxLen; omega) om (Qxx _)
     refine ⟨v', w', r1, r2, r3, ?_, ?_, ?_⟩
     ·intro hm
      subst hm
      rcases hown.2 with ⟨rfl, rfl⟩ | ⟨b, cap, cur, rfl, _, q3, q4, q5, q6, q7⟩
      ·exact r4.2 ⟨rfl, rfl⟩
      ·have : (Builtin.append_ #[t, t] ty #[.slice (some ⟨b, 0, none⟩) n cap, .slice (some a) 0 cc]).run P w = .ok (.slice (some ⟨b, 0, none⟩) (n + 0) cap) (w.setRow b (cur.toList.take (n * xi.size) ++ news ++ cur.toList.drop (n * xi.size + news.length)).toArray) :=
        run_append_room (P := P) w t ty e xi hu i1 b n cap cur q3 a 0 cc news (by rw [hs.len, i2]) hc hs.one om (by
         rw [hs.len, i2, q6]
         have := QxF te.size q4
         omega)
       rw [this] at r1
       cases r1
       rfl
     ·intro b hb
      rcases hown.2 with ⟨rfl, rfl⟩ | ⟨b', cap, cur, rfl, _, q3, q4, q5, q6, q7⟩
      ·by_cases hm : m = 0
       ·have := r4.2 ⟨rfl, hm⟩
        rw [this] at hb; cases hb
       ·right
        have := run_append_nil (P := P) w t ty e xi z hu i1 i4 a m cc news (by rw [hs.len, i2]) hc om om (by rw [i3]; rw [QxX] at hby; omega)
        rw [this] at r1
        cases r1
        cases hb
        exact QxB _
      ·by_cases hroom : n + m ≤ cap
       ·left
        have : (Builtin.append_ #[t, t] ty #[.slice (some ⟨b', 0, none⟩) n cap, .slice (some a) m cc]).run P w = .ok (.slice (some ⟨b', 0, none⟩) (n + m) cap) (w.setRow b' (cur.toList.take (n * xi.size) ++ news ++ cur.toList.drop (n * xi.size + news.length)).toArray) :=
         run_append_room (P := P) w t ty e xi hu i1 b' n cap cur q3 a m cc news (by rw [hs.len, i2]) hc hs.one hroom (by
          rw [hs.len, i2, q6, ← Qyh]
          exact QxF te.size hroom)
        rw [this] at r1
        cases r1
        cases hb
        rfl
       ·right
        have hf1 : (Builtin.firstCells xi.size n (.slice (some ⟨b', 0, none⟩) n cap)).run P w.drew = .ok old.toArray w.drew := by
         refine run_firstCells_some w.drew xi.size n ⟨b', 0, none⟩ n cap old (by rw [hown.1, i2]) (fun j u hu => ?_)
         exact hown.cells (g := b') rfl j u hu
        have hf2 : (Builtin.firstCells xi.size m (.slice (some a) m cc)).run P w.drew = .ok news.toArray w.drew :=
         run_firstCells_some w.drew xi.size m a m cc news (by rw [hs.len, i2]) (fun j u hu => hc j u hu)
        have := QbJ (P := P) (w := w) (ty := ty) hu i1 i4 (some ⟨b', 0, none⟩) n cap m (.slice (some a) m cc) ⟨_, _, rfl⟩ old news hf1 hf2 om om (by rw [i3]; exact hby)
        rw [this] at r1
        cases r1
        cases hb
        exact QxB _
     ·have hz1 := QcH hte i1 i4
      rcases hown.2 with ⟨rfl, rfl⟩ | ⟨b', cap, cur, rfl, _, q3, q4, q5, q6, q7⟩
      ·by_cases hm : m = 0
       ·rw [r4.2 ⟨rfl, hm⟩]; exact Sp.none rfl
       ·have := run_append_nil (P := P) w t ty e xi z hu i1 i4 a m cc news (by rw [hs.len, i2]) hc om om (by rw [i3]; rw [QxX] at hby; omega)
        rw [this] at r1
        cases r1
        exact Sp.of rfl (heap_alloc_new w.drew _) (Qbj (by simpa using hs.one) (Qbq hz1))
      ·by_cases hroom : n + m ≤ cap
       ·have := run_append_room (P := P) w t ty e xi hu i1 b' n cap cur q3 a m cc news (by rw [hs.len, i2]) hc hs.one hroom (by
         rw [hs.len, i2, q6, ← Qyh]
         exact QxF te.size hroom)
        rw [this] at r1
        cases r1
        exact Sp.of rfl (setRow_heap w b' cur _ e (0, 0) q3) (by simpa using QfB (o := n * xi.size) (k := n * xi.size + news.length) (hsp b' cur e (0, 0) rfl q3) hs.one)
       ·have hf1 : (Builtin.firstCells xi.size n (.slice (some ⟨b', 0, none⟩) n cap)).run P w.drew = .ok old.toArray w.drew := by
         refine run_firstCells_some w.drew xi.size n ⟨b', 0, none⟩ n cap old (by rw [hown.1, i2]) (fun j u hu => ?_)
         exact hown.cells (g := b') rfl j u hu
        have hf2 : (Builtin.firstCells xi.size m (.slice (some a) m cc)).run P w.drew = .ok news.toArray w.drew :=
         run_firstCells_some w.drew xi.size m a m cc news (by rw [hs.len, i2]) (fun j u hu => hc j u hu)
        have := QbJ (P := P) (w := w) (ty := ty) hu i1 i4 (some ⟨b', 0, none⟩) n cap m (.slice (some a) m cc) ⟨_, _, rfl⟩ old news hf1 hf2 om om (by rw [i3]; exact hby)
        rw [this] at r1
        cases r1
        exact Sp.of rfl (heap_alloc_new w.drew _) (Qbj (Qbj (by simpa using Qke hown hsp) (by simpa using hs.one)) (Qbq hz1))
   obtain ⟨v', w', r1, r2, r3, r4, r5, r6⟩ := key
   have hE' := hE v' r4
   have hsat := hw.step id _ v' hid hoth hE' r3 hob (fun b hb => (r5 b hb).imp (hob b) fun q => q) (show OSat F H'' (upd μ id v') w' id (.arr e te.size (n + m) (appG g n g2)) from by
    refine ⟨old ++ news, by simp only [upd, Qyo]; exact r2, by unfold maxLen; omega, fun i hi j hj => ?_, by simp only [upd, Qyo]; exact r6⟩
    by_cases c : i < n
    ·obtain ⟨u, u1, u2⟩ := hrep i c j hj
     have : i * te.size + te.size ≤ n * te.size := by rw [← Qyu]; exact QxF _ c
     refine ⟨u, ?_, by simp only [appG, Qxt c]; exact RepC.mono (Mem.le_refl F) hE' _ _ u2⟩
     rw [QxS (by rw [hown.1]; omega)]
     exact u1
    ·obtain ⟨u, u1, u2⟩ := hs.rep (i - n) om j hj
     refine ⟨u, ?_, by simp only [appG, Qxu c]; exact RepC.mono (Mem.le_refl F) hE' _ _ u2⟩
     have : n * te.size ≤ i * te.size := QxF _ om
     rw [QxY (by rw [hown.1]; omega), hown.1]
     rw [show i * te.size + j - n * te.size = (i - n) * te.size + j by rw [Nat.sub_mul]; omega]
     exact u1)
   refine ⟨v', w', _, r1, hsat, hE', ?_, e, n + m, _, hid, QxB _, QxB _, fun _ => ?_⟩
   ·rcases r2.2 with ⟨rfl, _⟩ | ⟨_, _, _, rfl, _⟩ <;> rfl
   ·rcases r2.2 with ⟨rfl, q⟩ | ⟨b, cap, _, rfl, _⟩
    ·exact ⟨none, 0, by simp [upd, q], by simp [q], fun e => by cases e⟩
    ·exact ⟨some ⟨b, 0, none⟩, cap, by simp [upd], rfl, fun e => by cases e⟩
  cases x with
  | nils =>
   simp only [Qxv, QxI] at h
   obtain ⟨rfl, rfl, rfl⟩ := h
   rw [show u = _ from hx]
   obtain ⟨news, hs⟩ := hsrc (Qd hn)
   have hm := hs.le
   have hg2 : appG (fun _ _ => C.junk) 0 g2 = g2 := by funext i j; simp [appG]
   have := own H.length 0 (fun _ _ => .junk) [] (.slice none 0 0) (H ++ [.arr e te.size m g2]) (World.ownsRow_nil w 0 e te.size) (Sp.none rfl) (Qxx _) (fun i hi => by omega) (by unfold maxLen at hm; omega) (by rw [QxX]; exact Qb hn _ (by simp)) (Qd hn)
    (by rw [QxX, hg2]; exact QW _ _) (fun i hi => Qad _ _ _ hi) (fun v' _ => Ext.push H μ _ v') (fun k hk => by cases hk)
   simpa using this
  | isl es n g tight =>
   simp only at h
   cases hb : Nat.beq es te.size with
   | false => simp [hb] at h
   | true =>
    have : es = te.size := QxD hb
    subst this
    simp only [hb, Qxv, QxI] at h
    obtain ⟨rfl, rfl, rfl⟩ := h
    have c1 : tight = true := Qb hn _ (by simp)
    have c2 : 1 ≤ m := Qb hn _ (by simp)
    have c3 : n + m ≤ 9223372036854775807 := Qb hn _ (by simp)
    have c4 : (n + m) * te.bytes ≤ 140737488355328 := Qb hn _ (by simp)
    obtain ⟨news, hs⟩ := hsrc (Qd hn)
    obtain ⟨olds, hos⟩ := Qfl hw (y := .isl te.size n g tight) (es := te.size) (ns := []) (m := n) (g := g) hx (by simp [srcK]) (by simp)
    obtain ⟨a, cap, rfl, q1, q2, q3, q3', q4⟩ := hx
    have hcap := q3 c1
    subst hcap
    have hf1 := hos.first P w.drew (fun _ => rfl) cap (QxB _)
    have hf2 := hs.first P w.drew (fun _ => rfl) m (QxB _)
    rw [QyQ (by rw [hos.len]; exact QxB _)] at hf1
    rw [QyQ (by rw [hs.len]; exact QxB _)] at hf2
    have hv : ∃ a c, v = .slice a m c := by
     rcases hs.val with ⟨rfl, rfl⟩ | ⟨a, c, rfl, _⟩
     ·exact ⟨none, 0, rfl⟩
     ·exact ⟨_, _, rfl⟩
    have run := QbJ (P := P) (w := w) (ty := ty) hu i1 i4 a cap cap m v hv olds news (by rw [i2]; exact hf1) (by rw [i2]; exact hf2) om c3 (by rw [i3]; exact c4)
    have hge := grownCap_ge w (cap + m) cap e
    have hcm : grownCap w (cap + m) cap e ≤ maxLen := grownCap_le_maxLen w (cap + m) cap e (by unfold maxLen; omega)
    have hE := Ext.push H μ (.arr e te.size (cap + m) (appG g cap g2)) (.slice (some ⟨w.heap.size, 0, none⟩) (cap + m) (grownCap w (cap + m) cap e))
    refine ⟨_, _, _, run, hw.push _ _ ⟨rfl, rfl, rfl, by simp, fun k hk _ => heap_alloc_old w.drew _ k hk⟩ (fun b hb => by cases hb; exact QxB _) ?_, hE, rfl, e, cap + m, _, QW _ _, QxB _, QxB _, fun _ => ⟨_, _, by simp [upd], rfl, fun e => by cases e⟩⟩
    refine ⟨olds ++ news, ⟨by rw [QxL, hos.len, hs.len, Qyh], .inr ⟨w.heap.size, grownCap w (cap + m) cap e, _, by simp [upd], Qxx _, heap_alloc_new w.drew _, hge, hcm, ?_, ?_⟩⟩, by unfold maxLen; omega, fun i hi j hj => ?_, Sp.of (b := w.heap.size) (by simp [upd, blk]) (heap_alloc_new w.drew _) (Qbj (Qbj (by simpa using hos.one) (by simpa using hs.one)) (Qbq (QcH hte i1 i4)))⟩
    ·simp only [Array.size_append, QyI, size_zeroCells, hzs, hos.len, hs.len, ← Qyh]
     congr 1
     omega
    ·simp only [QyO, QyH]
     rw [← QyH]
     exact List.take_left' (by rw [QxL, hos.len, hs.len, Qyh])
    ·by_cases c : i < cap
     ·obtain ⟨u, u1, u2⟩ := hos.rep i c j hj
      have : i * te.size + te.size ≤ cap * te.size := by rw [← Qyu]; exact QxF _ c
      refine ⟨u, ?_, by simp only [appG, Qxt c]; exact RepC.mono (Mem.le_refl F) hE _ _ u2⟩
      rw [QxS (by rw [hos.len]; omega)]
      exact u1
     ·obtain ⟨u, u1, u2⟩ := hs.rep (i - cap) om j hj
      refine ⟨u, ?_, by simp only [appG, Qxu c]; exact RepC.mono (Mem.le_refl F) hE _ _ u2⟩
      have : cap * te.size ≤ i * te.size := QxF _ om
      rw [QxY (by rw [hos.len]; omega), hos.len]
      rw [show i * te.size + j - cap * te.size = (i - cap) * te.size + j by rw [Nat.sub_mul]; omega]
      exact u1
  | sl id es len tot xq =>
   simp only at h
   cases hb : Nat.beq es te.size with
   | false => simp [hb] at h
   | true =>
    have : es = te.size := QxD hb
    subst this
    obtain ⟨_, e', n, g, h1, h2, h3, h4⟩ := hx
    simp only [hb, h1] at h
    cases hbe : Nat.beq e' e with
    | false => simp [hbe] at h
    | true =>
     have : e' = e := QxD hbe
     subst this
     cases hset : setL H id (.arr e' te.size (n + m) (appG g n g2)) with
     | none => simp [hset] at h
     | some H'' =>
      simp only [hbe, hset, Qxv, QxI] at h
      obtain ⟨rfl, rfl, rfl⟩ := h
      have c1 : tot = n := Qb hn _ (by simp)
      have c2 : len = n := Qb hn _ (by simp)
      have c3 : n + m ≤ 9223372036854775807 := Qb hn _ (by simp)
      have c4 : (n + m) * te.bytes ≤ 140737488355328 := Qb hn _ (by simp)
      obtain ⟨a, cap, m1, rfl, _⟩ := h4 c1
      subst c2
      obtain ⟨xs, o1, o2, o3, o4⟩ := hw.ob id _ h1
      obtain ⟨e1, e2⟩ := Qaz hset
      rw [← m1]
      refine own id len g xs (μ id) H'' o1 o4 o2 o3 c3 c4 (Qd hn) e1 e2 ?_ ?_
      ·intro v' hv'
       refine ⟨fun id' cs hc => ?_, fun id' e0 es0 n0 g0 hc => ?_, fun id' sh z va ks val hc => ?_⟩
       ·have hne : id' ≠ id := fun ee => by subst ee; rw [h1] at hc; cases hc
        exact ⟨⟨cs, by rw [e2 id' hne]; exact hc⟩, by simp [upd, hne]⟩
       ·by_cases ee : id' = id
        ·subst ee
         rw [h1] at hc
         cases hc
         exact ⟨_, _, e1, om, fun q => by simp only [upd, Qyo]; exact hv' om⟩
        ·exact ⟨n0, g0, by rw [e2 id' ee]; exact hc, QxB _, fun _ => by simp [upd, ee]⟩
       ·have hne : id' ≠ id := fun ee => by subst ee; rw [h1] at hc; cases hc
        exact ⟨⟨ks, val, by rw [e2 id' hne]; exact hc⟩, by simp [upd, hne]⟩
      ·intro k hk
       refine ⟨⟨_, h1, by simp⟩, ?_⟩
       rw [m1] at hk ⊢
       cases a with
       | none => cases hk
       | some a => exact hk
  | _ => simp at h
theorem Qt1 (hw : HSat K F H μ w) (hu : P.underlying t = some (.slice e)) (hte : TIok P e te) (hzl : te.zero.length = te.size) (hpos : 0 < te.size)
  {x : C} (hx : RepC F H μ x u) (hy : RepC F H μ y v) (h : appK e te H x y = some (ns, c, H')) (hn : ∀ q ∈ ns, q) :
  ∃ r w' μ', (Builtin.append_ #[t, t] ty #[u, v]).run P w = .ok r w' ∧ HSat K F H' μ' w' ∧ Ext H μ H' μ' ∧ RepC F H' μ' c r := by
 unfold appK at h
 cases hsrc : srcK te.size H y with
 | none => simp [hsrc] at h
 | some p =>
  obtain ⟨ns', m, g2⟩ := p
  rw [hsrc] at h
  exact QoW hw hu hte hzl hpos hx (fun hq => Qfl hw hy hsrc hq) h hn
theorem Qtq (hw : HSat K F H μ w) (hu : P.underlying t = some (.slice e)) (hte : TIok P e te) (hzl : te.zero.length = te.size) (hpos : 0 < te.size)
  {x : C} {id es' off len tot : Nat} (hx : RepC F H μ x u) (hy : RepS F H μ (.so id es' off len tot) v) (h : Qi1 e te H x id es' off len tot = some (ns, c, H')) (hn : ∀ q ∈ ns, q) :
  ∃ r w' μ', (Builtin.append_ #[t, t] ty #[u, v]).run P w = .ok r w' ∧ HSat K F H' μ' w' ∧ Ext H μ H' μ' ∧ RepC F H' μ' c r := by
 unfold Qi1 at h
 cases hsrc : srcO te.size H id es' off len tot with
 | none => simp [hsrc] at h
 | some p =>
  obtain ⟨ns', m, g2⟩ := p
  rw [hsrc] at h
  exact QoW hw hu hte hzl hpos hx (fun hq => QtN hw hy hsrc hq) h hn
end Go.Am
end
