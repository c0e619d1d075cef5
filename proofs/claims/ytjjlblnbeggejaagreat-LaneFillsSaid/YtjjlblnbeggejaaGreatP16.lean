/- Contracts, lemmas; no condition. -/
import Derived.Test.YtjjlblnbeggejaaGreatP15
import Derived.Test.YtjjlblnbeggejaaGreatA26
set_option linter.all false
section
open Go Go.Am
namespace Go.Proofs
set_option maxRecDepth 20000
def QtT (r : Rng) (x : Req) : Rng × Int :=
 if QbH r = true then
  if (r.items.length : Int) = r.depth then (r, 13)
  else if x.serial < 0 ∨ 0 < r.items.length ∧ x.serial ≤ (r.items.getD (r.items.length - 1) default).serial then (r, 17)
  else (⟨r.depth, r.items ++ [x]⟩, 0)
 else (r, 6)
def Qsx (r : Rng) : Rng × Req × Bool :=
 if QbH r = true ∧ 0 < r.items.length then (⟨r.depth, r.items.drop 1⟩, r.items.getD 0 default, true) else (r, default, false)
def St.addEv (s : St) (e : Evt) : St := { s with evs := s.evs ++ [e] }
def St.setRing (s : St) (q : Nat) (r : Rng) : St := { s with rings := s.rings.set q r }
def St.setWork (s : St) (q : Nat) (w : Wrk) : St := { s with works := s.works.set q w }
def QiD (back : Bool) (q : Int) (r : Req) (err : Int) (d : ByteArray) : Evt := ⟨back, q, r.serial, r.kind, r.block, r.data, err, d⟩
def QoA (s : St) (q : Int) (err : Int) (d : ByteArray) : St × Bool :=
 if QaI s = true ∧ 0 ≤ q ∧ q < s.works.length ∧ (s.works.getD q.toNat default).state ≠ 0 then
  ((s.addEv (QiD true q (s.works.getD q.toNat default).req err d)).setWork q.toNat default, true)
 else (s, false)
def Qo4 (s : St) (q : Int) (x : Req) : St × Int :=
 if QaI s = true then
  if 0 ≤ q ∧ q < s.rings.length then
   if 398 < s.evs.length + (QtE s.evs).length ∨ 1099511627776 ≤ s.serial then (s, 19)
   else
    let y : Req := { x with serial := s.serial }
    if s.closed = true then
     (({ s with serial := s.serial + 1 }.addEv (QiD false q y 0 ByteArray.empty)).addEv (QiD true q y 12 ByteArray.empty), 0)
    else
     let r := QtT (s.rings.getD q.toNat default) y
     if r.2 ≠ 0 then (s, r.2)
     else ({ (s.setRing q.toNat r.1) with serial := s.serial + 1 }.addEv (QiD false q y 0 ByteArray.empty), 0)
  else (s, 1)
 else (s, 6)
def Qug (k : Int) : Int := if k = 1 then 1 else if k = 4 then 10 else 5
def QrG (own : Bool) (s : St) (q : Int) : St × Bool :=
 if QaI s = true ∧ 0 ≤ q ∧ q < s.works.length ∧ (s.works.getD q.toNat default).state = 0 then
  let t := Qsx (s.rings.getD q.toNat default)
  if t.2.2 = true then
   let s1 := s.setRing q.toNat t.1
   if cmdE s.cfg t.2.1 = 0 then (s1.setWork q.toNat ⟨Qug t.2.1.kind, t.2.1, default, ByteArray.empty⟩, true)
   else ((if own = true then s1.setWork q.toNat default else s1).addEv (QiD true q t.2.1 (cmdE s.cfg t.2.1) ByteArray.empty), true)
  else (s, false)
 else (s, false)
def Qid (w : Wrk) : Bool := decide (w.state = 7 ∨ w.state = 8)
def Qqn (n : Int) (l : List Wrk) : Nat → Int
 | 0 => n
 | k + 1 => if Qid (l.getD k default) = true ∧ ((l.take k).any Qid = false ∨ (l.getD k default).ent.version < Qqn n l k) then (l.getD k default).ent.version else Qqn n l k
def QbO (r : List Ret) (z : Int) : Bool := r.any fun x => decide (x.zone = z)
theorem QaC {c : Conf} {z : Int} (h : Qam c z = true) : 0 ≤ z ∧ z < c.zones ∧ Qby c = true := by
 unfold Qam at h
 rw [decide_eq_true_eq] at h
 have hr := (QR h.1).1
 have := Qak hr
 exact ⟨by omega, h.2.2, hr⟩
def Qo (l : List Ent) (b : Int) : Nat := l.findIdx fun e => decide (b ≤ e.block)
theorem QdU (l : List Ent) (b : Int) : Qo l b ≤ l.length := List.findIdx_le_length
theorem QqZ {l : List Ent} {b : Int} {k : Nat} (hk : k ≤ l.length) (h : ∀ i, i < k → (l.getD i default).block < b) (he : k = l.length ∨ b ≤ (l.getD k default).block) : Qo l b = k := by
 unfold Qo
 rcases he with rfl | he
 ·refine List.findIdx_eq_length.2 fun x hx => ?_
  obtain ⟨i, hi, rfl⟩ := List.getElem_of_mem hx
  have := h i hi
  rw [show l.getD i default = l[i] by simp [List.getD, hi]] at this
  exact decide_eq_false (by omega)
 ·by_cases c : k < l.length
  ·rw [List.findIdx_eq c]
   refine ⟨?_, fun j hj => ?_⟩
   ·rw [show l.getD k default = l[k] by simp [List.getD, c]] at he
    exact decide_eq_true he
   ·have := h j hj
    rw [show l.getD j default = l[j] by simp [List.getD, show j < l.length by omega]] at this
    exact decide_eq_false (by omega)
  ·have : k = l.length := by omega
   subst this
   refine List.findIdx_eq_length.2 fun x hx => ?_
   obtain ⟨i, hi, rfl⟩ := List.getElem_of_mem hx
   have := h i hi
   rw [show l.getD i default = l[i] by simp [List.getD, hi]] at this
   exact decide_eq_false (by omega)
theorem Qr2 {l : List Ent} {b : Int} {i : Nat} (h : i < Qo l b) : (l.getD i default).block < b := by
 have hl : i < l.length := Nat.lt_of_lt_of_le h (QdU l b)
 have := List.not_of_lt_findIdx h
 rw [show l.getD i default = l[i] by simp [List.getD, hl]]
 simpa using this
theorem Qre {l : List Ent} {b : Int} (h : Qo l b < l.length) : b ≤ (l.getD (Qo l b) default).block := by
 have := List.findIdx_getElem (p := fun (e : Ent) => decide (b ≤ e.block)) (xs := l) (w := h)
 rw [show l.getD (Qo l b) default = l[Qo l b] by simp [List.getD, h]]
 exact of_decide_eq_true this
def hasM (l : List Ent) (b : Int) : Bool := decide (Qo l b < l.length ∧ (l.getD (Qo l b) default).block = b)
def QO (l : List Ent) (b : Int) : Ent × Bool := if QM l = true ∧ hasM l b = true then (l.getD (Qo l b) default, true) else (default, false)
def putE (l : List Ent) (e : Ent) : List Ent := l.take (Qo l e.block) ++ e :: l.drop (if hasM l e.block = true then Qo l e.block + 1 else Qo l e.block)
def QaP (l : List Ent) (e : Ent) : List Ent × Ent × Bool :=
 if QM l = true then
  if QaQ e = true then
   if (QO l e.block).2 = true ∧ e.version ≤ (QO l e.block).1.version then (l, (QO l e.block).1, false)
   else (putE l e, (QO l e.block).1, true)
  else (l, default, false)
 else ([], default, false)
def relE (l : List Ent) (b v fz fo tz to move : Int) : List Ent × Bool :=
 if QM l = true then
  if (QO l b).2 = true ∧ (QO l b).1.version = v ∧ (QO l b).1.zone = fz ∧ (QO l b).1.offset = fo ∧ 0 ≤ tz ∧ 0 ≤ to ∧ 0 ≤ move ∧ move ≤ 255 then
   (l.set (Qo l b) { (QO l b).1 with zone := tz, offset := to, move := move }, true)
  else (l, false)
 else ([], false)
def QE (m : List (List Ent)) (b : Int) : Nat := (b.tmod m.length).toNat
def QfX (m : List (List Ent)) (b : Int) : Ent × Bool := if Qx m = true ∧ 0 ≤ b then QO (m.getD (QE m b) default) b else (default, false)
def Qax (m : List (List Ent)) (e : Ent) : List (List Ent) × Ent × Bool :=
 if Qx m = true ∧ 0 ≤ e.block then
  if (QaP (m.getD (QE m e.block) default) e).2.2 = true then (m.set (QE m e.block) (QaP (m.getD (QE m e.block) default) e).1, (QaP (m.getD (QE m e.block) default) e).2.1, true)
  else (m, (QaP (m.getD (QE m e.block) default) e).2.1, false)
 else (m, default, false)
def relM (m : List (List Ent)) (b v fz fo tz to move : Int) : List (List Ent) × Bool :=
 if Qx m = true ∧ 0 ≤ b then
  if (relE (m.getD (QE m b) default) b v fz fo tz to move).2 = true then (m.set (QE m b) (relE (m.getD (QE m b) default) b v fz fo tz to move).1, true) else (m, false)
 else (m, false)
theorem Qbw {m : List (List Ent)} (h : Qx m = true) : 1 ≤ m.length ∧ m.length ≤ 8 := by
 unfold Qx at h
 simp only [Bool.and_eq_true, decide_eq_true_eq] at h
 exact h.1
theorem Qch {m : List (List Ent)} (h : Qx m = true) {i : Nat} (hi : i < m.length) : QM (m.getD i default) = true ∧ Qan (m.getD i default) m.length i = true := by
 unfold Qx at h
 simp only [Bool.and_eq_true, decide_eq_true_eq] at h
 exact h.2 i hi
theorem Qd4 {m : List (List Ent)} (h : Qx m = true) {b : Int} (hb : 0 ≤ b) : QE m b < m.length := by
 have := Qbw h
 unfold QE
 have h1 := Int.tmod_nonneg (m.length : Int) hb
 have h2 := Int.tmod_lt_of_pos b (show 0 < (m.length : Int) by omega)
 omega
theorem QhX {m : List (List Ent)} (h : Qx m = true) {b : Int} (hb : 0 ≤ b) : (QE m b : Int) = b.tmod m.length := by
 have := Qbw h
 have h1 := Int.tmod_nonneg (m.length : Int) hb
 unfold QE
 omega
def Qa3 (l : List Ent) (b : Int) : Nat → Nat
 | 0 => 0
 | k + 1 => if b < (l.getD k default).block then Qa3 l b k else k + 1
theorem Qin (l : List Ent) (b : Int) : ∀ k, Qa3 l b k ≤ k
 | 0 => Nat.le_refl _
 | k + 1 => by
  have := Qin l b k
  unfold Qa3
  split <;> omega
def insE (l : List Ent) (x : Ent) : List Ent := l.take (Qa3 l x.block l.length) ++ x :: l.drop (Qa3 l x.block l.length)
theorem Qme (l : List Ent) (x : Ent) : (insE l x).length = l.length + 1 := by
 have := Qin l x.block l.length
 simp [insE]; omega
def allM (m : List (List Ent)) : List Ent := m.flatten.foldl insE []
def allS (m : List (List Ent)) : List Ent := if Qx m = true then allM m else []
theorem Qu {α : Type} [Inhabited α] (l : List α) (i : Nat) (h : i < l.length) : l.getD i default = l[i] := by simp [List.getD, h]
def Asc (l : List Ent) : Prop := l.Pairwise fun a b => a.block < b.block
theorem Qi5 {l : List Ent} {b : Int} : ∀ {k : Nat}, k ≤ l.length → (∀ i, Qa3 l b k ≤ i → i < k → b < (l.getD i default).block) ∧ (0 < Qa3 l b k → (l.getD (Qa3 l b k - 1) default).block ≤ b)
 | 0, _ => ⟨fun i _ h => by omega, fun h => by simp [Qa3] at h⟩
 | k + 1, hk => by
  obtain ⟨h1, h2⟩ := Qi5 (l := l) (b := b) (k := k) (by omega)
  unfold Qa3
  split
  ·rename_i c
   refine ⟨fun i hi hik => ?_, h2⟩
   by_cases e : i = k
   ·subst e; exact c
   ·exact h1 i hi (by omega)
  ·rename_i c
   exact ⟨fun i hi hik => by omega, fun _ => by simpa using Int.not_lt.1 c⟩
theorem Asc.get {l : List Ent} (h : Asc l) {i j : Nat} (hi : i < j) (hj : j < l.length) : (l.getD i default).block < (l.getD j default).block := by
 rw [Qu _ _ (by omega), Qu _ _ hj]
 exact List.pairwise_iff_getElem.1 h i j (by omega) hj hi
theorem QrH (l : List Ent) (x : Ent) : (insE l x).Perm (x :: l) := by
 unfold insE
 refine (List.perm_middle).trans ?_
 rw [List.take_append_drop]
theorem QsC {l : List Ent} {x : Ent} (h : Asc l) (hx : ∀ e ∈ l, e.block ≠ x.block) : Asc (insE l x) := by
 obtain ⟨s1, s2⟩ := Qi5 (l := l) (b := x.block) (k := l.length) (Nat.le_refl _)
 have sl := Qin l x.block l.length
 generalize hs : Qa3 l x.block l.length = s at *
 unfold insE
 rw [hs]
 have lo : ∀ i, i < s → (l.getD i default).block < x.block := fun i hi => by
  have h1 := s2 (by omega)
  have h2 := hx (l.getD (s - 1) default) (by rw [Qu _ _ (show s - 1 < l.length by omega)]; exact List.getElem_mem _)
  have h3 : (l.getD (s - 1) default).block < x.block := by omega
  by_cases e : i = s - 1
  ·rw [e]; exact h3
  ·have := h.get (i := i) (j := s - 1) (by omega) (by omega)
   omega
 refine List.pairwise_append.2 ⟨List.Pairwise.sublist (List.take_sublist _ _) h, ?_, ?_⟩
 ·refine List.pairwise_cons.2 ⟨fun e he => ?_, List.Pairwise.sublist (List.drop_sublist _ _) h⟩
  obtain ⟨i, hi, rfl⟩ := List.getElem_of_mem he
  rw [List.length_drop] at hi
  have := s1 (s + i) (by omega) (by omega)
  rw [Qu _ _ (by omega)] at this
  simpa using this
 ·intro a ha b hb
  obtain ⟨i, hi, rfl⟩ := List.getElem_of_mem ha
  rw [List.length_take] at hi
  have hl := lo i (by omega)
  rw [Qu _ _ (by omega)] at hl
  have ea : (l.take s)[i]'(by rw [List.length_take]; omega) = l[i]'(by omega) := by simp
  rw [ea]
  rcases List.mem_cons.1 hb with rfl | hb
  ·exact hl
  ·obtain ⟨j, hj, rfl⟩ := List.getElem_of_mem hb
   rw [List.length_drop] at hj
   have := s1 (s + j) (by omega) (by omega)
   rw [Qu _ _ (by omega)] at this
   simp only [List.getElem_drop]
   omega
theorem Qut {l : List Ent} : ∀ {out : List Ent}, Asc out → (∀ e ∈ out, ∀ x ∈ l, e.block ≠ x.block) → (l.map Ent.block).Nodup → Asc (l.foldl insE out) ∧ (l.foldl insE out).Perm (l ++ out) := by
 induction l with
 | nil => intro out h _ _; exact ⟨h, List.Perm.refl _⟩
 | cons x l ih =>
  intro out h hx hn
  simp only [List.map_cons, List.nodup_cons] at hn
  have h1 := QsC h fun e he => hx e he x (List.mem_cons_self ..)
  have h2 := QrH out x
  obtain ⟨i1, i2⟩ := ih (out := insE out x) h1 (fun e he y hy => by
   have := h2.mem_iff.1 he
   rcases List.mem_cons.1 this with rfl | he
   ·exact fun q => hn.1 (q ▸ List.mem_map_of_mem hy)
   ·exact hx e he y (List.mem_cons_of_mem _ hy)) hn.2
  refine ⟨i1, i2.trans ?_⟩
  refine (List.Perm.append_left l h2).trans ?_
  exact List.perm_middle
theorem Qg6 {m : List (List Ent)} (h : Qx m = true) {i : Nat} (hi : i < m.length) {e : Ent} (he : e ∈ m.getD i default) : e.block.tmod m.length = i ∧ QaQ e = true := by
 obtain ⟨h1, h2⟩ := Qch h hi
 obtain ⟨k, hk, rfl⟩ := List.getElem_of_mem he
 unfold Qan at h2
 unfold QM at h1
 rw [decide_eq_true_eq] at h1 h2
 have a := h2 k hk
 have b := (h1 k hk).1
 rw [Qu _ _ hk] at a b
 exact ⟨a, b⟩
theorem QeS {l : List Ent} (h : QM l = true) : Asc l := by
 unfold QM at h
 rw [decide_eq_true_eq] at h
 have key : ∀ d i, i + d + 1 < l.length → (l.getD i default).block < (l.getD (i + d + 1) default).block := by
  intro d
  induction d with
  | zero => intro i hi; exact (h (i + 1) hi).2 (by omega)
  | succ d ih =>
   intro i hi
   have h1 := ih i (by omega)
   have h2 := (h (i + (d + 1) + 1) hi).2 (by omega)
   rw [show i + (d + 1) + 1 - 1 = i + d + 1 by omega] at h2
   omega
 refine List.pairwise_iff_getElem.2 fun i j hi hj hij => ?_
 have := key (j - i - 1) i (by omega)
 rw [show i + (j - i - 1) + 1 = j by omega, Qu _ _ hi, Qu _ _ hj] at this
 exact this
theorem Qi8 {m : List (List Ent)} (h : Qx m = true) : (m.flatten.map Ent.block).Nodup := by
 rw [List.map_flatten, List.Nodup, List.pairwise_flatten]
 constructor
 ·intro l hl
  obtain ⟨x, hx, rfl⟩ := List.mem_map.1 hl
  obtain ⟨i, hi, rfl⟩ := List.getElem_of_mem hx
  have := QeS (Qch h hi).1
  rw [Qu _ _ hi] at this
  exact List.pairwise_map.2 (this.imp fun h => by omega)
 ·rw [List.pairwise_map, List.pairwise_iff_getElem]
  intro i j hi hj hij a ha b hb hab
  subst hab
  obtain ⟨e, he, rfl⟩ := List.mem_map.1 ha
  obtain ⟨e', he', h3⟩ := List.mem_map.1 hb
  have h1 := (Qg6 h hi (e := e) (by rw [Qu _ _ hi]; exact he)).1
  have h2 := (Qg6 h hj (e := e') (by rw [Qu _ _ hj]; exact he')).1
  rw [h3, h1] at h2
  omega
theorem QcJ {m : List (List Ent)} (h : Qx m = true) : Asc (allM m) ∧ (allM m).Perm m.flatten := by
 have := Qut (l := m.flatten) (out := []) List.Pairwise.nil (fun e he => by cases he) (Qi8 h)
 rw [List.append_nil] at this
 exact this
theorem Qrn {m : List (List Ent)} (h : Qx m = true) {l : List Ent} (hp : l.Perm m.flatten) (hs : l.Pairwise fun a b => ¬ b.block < a.block) : l = allM m := by
 obtain ⟨a1, a2⟩ := QcJ h
 refine List.Perm.eq_of_pairwise (le := fun a b => ¬ b.block < a.block) (fun a b ha hb h1 h2 => ?_) hs (a1.imp fun h => by omega) (hp.trans a2.symm)
 have hb' := a2.mem_iff.1 hb
 have ha' := hp.mem_iff.1 ha
 have hn := Qi8 h
 obtain ⟨i, hi, rfl⟩ := List.getElem_of_mem ha'
 obtain ⟨j, hj, rfl⟩ := List.getElem_of_mem hb'
 have hne : i = j := by
  refine Decidable.byContradiction fun hij => ?_
  have hp := List.pairwise_iff_getElem.1 hn
  have hi' : i < (m.flatten.map Ent.block).length := by rw [List.length_map]; exact hi
  have hj' : j < (m.flatten.map Ent.block).length := by rw [List.length_map]; exact hj
  rcases Nat.lt_or_gt_of_ne hij with c | c
  ·exact hp i j hi' hj' c (by rw [List.getElem_map, List.getElem_map]; omega)
  ·exact hp j i hj' hi' c (by rw [List.getElem_map, List.getElem_map]; omega)
 subst hne
 rfl
theorem Qtd {m : List (List Ent)} (h : Qx m = true) (e : Ent) : e ∈ allM m ↔ ∃ i, i < m.length ∧ e ∈ m.getD i default := by
 rw [(QcJ h).2.mem_iff, List.mem_flatten]
 constructor
 ·rintro ⟨l, h1, h2⟩
  obtain ⟨i, hi, rfl⟩ := List.getElem_of_mem h1
  exact ⟨i, hi, by rw [Qu _ _ hi]; exact h2⟩
 ·rintro ⟨i, hi, he⟩
  rw [Qu _ _ hi] at he
  exact ⟨_, List.getElem_mem hi, he⟩
theorem QbA {α : Type} {l : List α} {q i : Nat} {x d : α} (hq : q < l.length) : (l.set q x).getD i d = if i = q then x else l.getD i d := by
 simp only [List.getD, List.getElem?_set]
 by_cases h : q = i
 ·subst h; simp [hq]
 ·rw [if_neg h, if_neg (fun e => h e.symm)]
theorem QgN {α : Type} {l : List α} {i : Nat} {x d : α} (hi : i < l.length + 1) : (l ++ [x]).getD i d = if i = l.length then x else l.getD i d := by
 simp only [List.getD]
 by_cases h : i = l.length
 ·subst h; simp
 ·rw [if_neg h, List.getElem?_append_left (by omega)]
structure QOk (c : Conf) (serial : Int) (r : Rng) (w : Wrk) : Prop where
 ring : QbH r = true
 depth : r.depth = c.depth
 work : Qd3 c w = true
 req : w.state = 0 ∨ w.req.serial < serial
 items : ∀ k, k < r.items.length → (r.items.getD k default).serial < serial
theorem QOk.later {c : Conf} {n n' : Int} {r : Rng} {w : Wrk} (h : QOk c n r w) (hn : n ≤ n') : QOk c n' r w :=
 ⟨h.ring, h.depth, h.work, h.req.imp id fun k => by omega, fun k hk => by have := h.items k hk; omega⟩
theorem QrP {s : St} {i : Nat} : Qdn s i = true ↔ QOk s.cfg s.serial (s.rings.getD i default) (s.works.getD i default) := by
 unfold Qdn
 simp only [Bool.and_eq_true, decide_eq_true_eq]
 exact ⟨fun ⟨a, b, c, d, e⟩ => ⟨a, b, c, d, e⟩, fun ⟨a, b, c, d, e⟩ => ⟨a, b, c, d, e⟩⟩
structure Parts (s : St) : Prop where
 cfg : QB s.cfg = 0
 dev : check s.dev = 0
 zones : (s.dev.zones.length : Int) = s.cfg.zones
 size : s.dev.size = s.cfg.size
 map : Qx s.map = true
 shards : (s.map.length : Int) = s.cfg.shards
 blocks : QaJ s.map s.cfg.blocks = true
 counts : Qr s.live s.pend = true
 live : (s.live.length : Int) = s.cfg.zones
 locks : QbI s.owner = true
 stripes : (s.owner.length : Int) = s.cfg.shards
 epochs : QL s.glob s.pins s.rets = true
 pins : (s.pins.length : Int) = s.cfg.queues
 pool : poolOk s.cfg s.free s.host s.lane = true
 rings : (s.rings.length : Int) = s.cfg.queues
 works : (s.works.length : Int) = s.cfg.queues
 next : 1 ≤ s.next ∧ s.next ≤ 1099511627776
 serial : 0 ≤ s.serial ∧ s.serial ≤ 1099511627776
theorem QsE {s : St} : QaT s = true ↔ Parts s := by
 unfold QaT
 simp only [Bool.and_eq_true, decide_eq_true_eq]
 constructor
 ·rintro ⟨a1, a2, ⟨a3, a4⟩, a5, a6, a7, a8, a9, a10, a11, a12, a13, a14, ⟨a15, a16⟩, a17, a18, a19, a20⟩
  exact ⟨a1, a2, a3, a4, a5, a6, a7, a8, a9, a10, a11, a12, a13, a14, a15, a16, ⟨a17, a18⟩, ⟨a19, a20⟩⟩
 ·rintro ⟨a1, a2, a3, a4, a5, a6, a7, a8, a9, a10, a11, a12, a13, a14, a15, a16, ⟨a17, a18⟩, ⟨a19, a20⟩⟩
  exact ⟨a1, a2, ⟨a3, a4⟩, a5, a6, a7, a8, a9, a10, a11, a12, a13, a14, ⟨a15, a16⟩, a17, a18, a19, a20⟩
structure Val (s : St) : Prop where
 parts : Parts s
 queues : ∀ i, i < s.rings.length → QOk s.cfg s.serial (s.rings.getD i default) (s.works.getD i default)
 evs : ∀ i, i < s.evs.length → (s.evs.getD i default).serial < s.serial
theorem validS_V {s : St} : QaI s = true ↔ Val s := by
 unfold QaI
 simp only [Bool.and_eq_true, decide_eq_true_eq, QrP, QsE]
 exact ⟨fun ⟨a, b, c⟩ => ⟨a, b, c⟩, fun ⟨a, b, c⟩ => ⟨a, b, c⟩⟩
theorem ringOk_R {r : Rng} : QbH r = true ↔ (1 ≤ r.depth ∧ r.depth ≤ 8 ∧ (r.items.length : Int) ≤ r.depth) ∧ ∀ i, i < r.items.length → 0 ≤ (r.items.getD i default).serial ∧ (0 < i → (r.items.getD (i - 1) default).serial < (r.items.getD i default).serial) := by
 unfold QbH
 rw [Bool.and_eq_true, decide_eq_true_eq, decide_eq_true_eq]
theorem Val.setWork {s : St} (h : Val s) {q : Nat} {w : Wrk} (hq : q < s.works.length) (h1 : Qd3 s.cfg w = true) (h2 : w.state = 0 ∨ w.req.serial < s.serial) : Val (s.setWork q w) := by
 refine ⟨{ h.parts with works := by simp only [St.setWork, List.length_set]; exact h.parts.works }, fun i hi => ?_, h.evs⟩
 have := h.queues i hi
 simp only [St.setWork]
 rw [QbA hq]
 split
 ·rename_i e; subst e; exact ⟨this.ring, this.depth, h1, h2, this.items⟩
 ·exact this
theorem Val.addEv {s : St} (h : Val s) {e : Evt} (he : e.serial < s.serial) : Val (s.addEv e) := by
 refine ⟨{ h.parts with }, h.queues, fun i hi => ?_⟩
 simp only [St.addEv, List.length_append, List.length_cons, List.length_nil] at hi ⊢
 rw [QgN hi]
 split
 ·exact he
 ·exact h.evs i (by omega)
end Go.Proofs
end

section
namespace Go.Am
def modI (x n : Int) : Int := if n < 1 then 0 else (IntKind.i64.wrap (x.tmod n + n)).tmod n
theorem QpU {x n : Int} (h : 1 ≤ n) (h' : n ≤ 4611686018427387904) : 0 ≤ modI x n ∧ modI x n < n := by
 unfold modI
 rw [if_neg (by omega)]
 have h1 := Int.tmod_lt_of_pos x (by omega : 0 < n)
 have h2 : -n < x.tmod n := by
  have := Int.neg_tmod x n
  have := Int.tmod_lt_of_pos (-x) (by omega : 0 < n)
  omega
 rw [Qa _ (by omega) (by omega)]
 exact ⟨Int.tmod_nonneg _ (by omega), Int.tmod_lt_of_pos _ (by omega)⟩
theorem Qr1 {x n : Int} (h : n < 1) : modI x n = 0 := if_pos h
structure DiceM where
 l : List Int
 at_ : Nat
def DiceM.next (d : DiceM) (n : Int) : Int := if d.l.length ≤ d.at_ then 0 else modI (d.l.getD d.at_ 0) n
def DiceM.step (d : DiceM) : DiceM := if d.l.length ≤ d.at_ then d else ⟨d.l, d.at_ + 1⟩
def DiceM.cells (d : DiceM) : List C := [Qh d.l, .int .i64 d.at_]
structure DiceM.ok (d : DiceM) : Prop where
 le : d.at_ ≤ d.l.length
 len : d.l.length ≤ 10000000
theorem DiceM.ok.step {d : DiceM} (h : d.ok) : d.step.ok := by
 unfold DiceM.step
 split
 ·exact h
 ·exact ⟨by dsimp only; omega, h.len⟩
theorem DiceM.next_range (d : DiceM) {n : Int} (h : 1 ≤ n) (h' : n ≤ 4611686018427387904) : 0 ≤ d.next n ∧ d.next n < n := by
 unfold DiceM.next
 split
 ·omega
 ·exact QpU h h'
end Go.Am
namespace Go.Am
def volI (z : Zone) : Int := if z.durable < z.sectors.length then (z.sectors.length : Int) - max z.durable 0 else 0
def volL (l : List Zone) : List Int := l.map volI
@[simp] theorem volL_len (l : List Zone) : (volL l).length = l.length := by simp [volL]
end Go.Am
namespace Go.Am
def tabL {α : Type} (f : Nat → α) (n : Nat) : List α := (List.range n).map f
section
variable {α : Type} {f : Nat → α}
@[simp] theorem tabL_len (n : Nat) : (tabL f n).length = n := by simp [tabL]
@[simp] theorem tabL_zero : tabL f 0 = [] := rfl
theorem Qrs [Inhabited α] {n i : Nat} (h : i < n) : (tabL f n).getD i default = f i := by simp [tabL, List.getD, h]
end
def QcF (z : Zone) : Zone := { z with durable := z.sectors.length }
def Qbo (d : Dev) : Dev := if check d = 0 then { d with zones := d.zones.map QcF } else dev0
theorem Qmc {α β : Type} [Inhabited α] (f : α → β) (l : List α) : l.map f = tabL (fun i => f (l.getD i default)) l.length := by
 apply List.ext_getElem
 ·simp
 ·intro i h1 h2
  simp [tabL, List.getD, (by simpa using h1 : i < l.length)]
end Go.Am
namespace Go.Am
def updI (f : Nat → Zone → Zone) (l : List Zone) (k : Nat) : List Zone := tabL (fun i => if i < k then f i (l.getD i default) else l.getD i default) l.length
def updL (f : Zone → Zone) (l : List Zone) (k : Nat) : List Zone := updI (fun _ => f) l k
variable {f : Nat → Zone → Zone} {l : List Zone}
@[simp] theorem updI_len (k : Nat) : (updI f l k).length = l.length := by simp [updI]
@[simp] theorem updL_len {f : Zone → Zone} (k : Nat) : (updL f l k).length = l.length := by simp [updL]
theorem QtQ : tabL (fun i => l.getD i default) l.length = l := by
 rw [← Qmc (fun z => z) l]; simp
theorem Qjy {α : Type} {f g : Nat → α} {n : Nat} (h : ∀ i, i < n → f i = g i) : tabL f n = tabL g n := by
 unfold tabL
 exact List.map_congr_left fun i hi => h i (by simpa using hi)
@[simp] theorem updI_zero : updI f l 0 = l := by
 conv => rhs; rw [← QtQ (l := l)]
 exact Qjy fun i _ => by simp
@[simp] theorem updL_zero {f : Zone → Zone} : updL f l 0 = l := updI_zero
theorem QsL : updI f l l.length = tabL (fun i => f i (l.getD i default)) l.length := Qjy fun i hi => by simp [hi]
theorem Qtr {f : Zone → Zone} : updL f l l.length = l.map f := by rw [updL, QsL, Qmc]
theorem Qsk {k i : Nat} (h : k ≤ i) (hi : i < l.length) : (updI f l k).getD i default = l.getD i default := by
 rw [updI, Qrs hi, if_neg (by omega)]
theorem Qs9 {k : Nat} (h : k < l.length) : (updI f l k).set k (f k (l.getD k default)) = updI f l (k + 1) := by
 apply List.ext_getElem
 ·simp
 ·intro i h1 h2
  rw [List.getElem_set]
  have hi : i < l.length := by simpa using h2
  simp only [updI, tabL, List.getElem_map, List.getElem_range]
  by_cases c : k = i
  ·subst c
   simp
  ·rw [if_neg c]
   by_cases c2 : i < k
   ·rw [if_pos c2, if_pos (by omega)]
   ·rw [if_neg c2, if_neg (by omega)]
end Go.Am
namespace Go.Am
theorem Qqs {l : List Zone} {k : Nat} (hk : k < l.length) (du : Int) (i j : Nat) (hj : j < 3) : updG (Qaa l) k 1 [.int .i64 du] i j = Qaa (l.set k { l.getD k default with durable := du }) i j :=
 QeA (f := Zone.cell) hk (es := 3) (fun j hj => by
  match j, hj with
  | 0, _ => rfl
  | 1, _ => rfl
  | 2, _ => rfl) i j hj
end Go.Am
namespace Go.Am
end Go.Am
namespace Go.Am
theorem Qb9 {α : Type} {l : List α} {a n : Nat} {d : α} (h : a < n) : l.getD a d = (l.take n).getD a d := by simp [List.getD, List.getElem?_take, h]
end Go.Am
namespace Go.Am
def Qr7 (n : Int) (i : Nat) : Int := IntKind.u8.wrap (modI (IntKind.i64.wrap (n + IntKind.i64.wrap (i * n))) 251)
def Qt7 (n : Int) (i : Nat) : Int := if i = 0 then IntKind.u8.wrap (IntKind.i64.wrap (1 + modI n 255)) else Qr7 n i
def genG (f : Nat → Int) : Nat → Nat → C := fun i _ => .int .u8 (f i)
theorem Qmt {f : Nat → Int} {k : Nat} {v : Int} (i j : Nat) (hj : j < 1) : updG (genG f) k 0 [.int .u8 v] i j = genG (fun i => if i = k then v else f i) i j := by
 have : j = 0 := by omega
 subst this
 rw [QX]
 simp only [genG]
 split <;> rename_i h
 ·rw [if_pos h.1]
 ·rw [if_neg (fun e => h (by simp [e]))]
def Qi0 (n : Int) : ByteArray := QQ 16 (genG (Qt7 n))
theorem Qn6 (n : Int) : (Qi0 n).size = 16 := Qa0 _ _
def recD (d : DiceM) : DiceM := d.step.step.step
def recR (d : DiceM) (blocks version : Int) : Rec :=
 if d.step.step.next 4 = 3 then ⟨2, d.next blocks, version, 0, ByteArray.empty⟩ else ⟨1, d.next blocks, version, 0, Qi0 (d.step.next 200)⟩
end Go.Am
namespace Go.Am
end Go.Am
namespace Go.Am
end Go.Am
namespace Go.Am
end Go.Am
end

section
open Go Go.Am
namespace Go.Proofs
set_option maxRecDepth 20000
def QbR (l : List Int) (i n : Int) : List Int := l.set i.toNat (l.getD i.toNat default + n)
@[simp] theorem addAt_len (l : List Int) (i n : Int) : (QbR l i n).length = l.length := List.length_set
theorem Qpg {l : List Int} {i n : Int} (h0 : 0 ≤ i) (h1 : i < l.length) (k : Nat) : (QbR l i n).getD k default = if k = i.toNat then l.getD i.toNat default + n else l.getD k default := by
 unfold QbR
 rw [QbA (by omega)]
def hasC (live pend : List Int) (z : Int) : Bool := Qr live pend && decide (0 ≤ z ∧ z < live.length)
theorem hasC_iff {live pend : List Int} {z : Int} : hasC live pend z = true ↔ Qr live pend = true ∧ 0 ≤ z ∧ z < live.length := by
 unfold hasC; rw [Bool.and_eq_true, decide_eq_true_eq]
def Qc9 (live : List Int) (oz fz : Int) (had is : Bool) : List Int :=
 if is = true then QbR (if had = true then QbR live oz (-1) else live) fz 1 else if had = true then QbR live oz (-1) else live
def Qar (live pend : List Int) (oz fz : Int) (had is : Bool) : List Int × Bool :=
 if Qr live pend = true ∧ (had = true → hasC live pend oz = true) ∧ (is = true → hasC live pend fz = true) ∧ Qr (Qc9 live oz fz had is) pend = true then (Qc9 live oz fz had is, true) else (live, false)
def QuI (live pend : List Int) (z : Int) : List Int × Bool :=
 if hasC live pend z = true ∧ pend.getD z.toNat default ≠ 1099511627776 then (QbR pend z 1, true) else (pend, false)
def QuS (o : List Int) (i : Int) : Bool := QbI o && decide (0 ≤ i ∧ i < o.length ∧ o.getD i.toNat default = -1)
def QuH (o : List Int) (i t : Int) : List Int × Bool := if QuS o i = true ∧ 0 ≤ t then (o.set i.toNat t, true) else (o, false)
def Qas (g : Int) (pins : List Int) (rets : List Ret) (z : Int) : List Ret × Bool :=
 if QL g pins rets = true ∧ 0 ≤ z ∧ QbO rets z = false then (rets ++ [⟨z, g⟩], true) else (rets, false)
def Qmi (g : Int) (pins : List Int) : Bool := decide (∀ i, i < pins.length → pins.getD i default = -1 ∨ pins.getD i default = g)
def advM (g : Int) (pins : List Int) (rets : List Ret) : Int × Bool :=
 if QL g pins rets = true ∧ g ≠ 1099511627776 ∧ Qmi g pins = true then (g + 1, true) else (g, false)
def orW (x y : Int) : Int := IntKind.i64.wrap (BitVec.ofInt IntKind.i64.bits x ||| BitVec.ofInt IntKind.i64.bits y).toNat
def shW (x : Int) : Int := IntKind.i64.wrap (x * 2 ^ min (8 : Int).toNat IntKind.i64.bits)
def Qa8 (b : ByteArray) (k : Nat) : Int := IntKind.i64.wrap ((b.data.toList.getD k 0).toNat : Int)
def Qdx (b : ByteArray) (at_ size : Nat) : Nat → Int
 | 0 => 0
 | k + 1 => orW (shW (Qdx b at_ size k)) (Qa8 b (at_ + (size - 1 - k)))
def getE (b : ByteArray) (at_ size : Nat) : Int := if b.size < at_ + size then 2 else 0
def getS (b : ByteArray) (at_ size : Nat) : Int := if b.size < at_ + size then 0 else Qdx b at_ size size
def sumW (b : ByteArray) : Int := IntKind.i64.wrap (addU 0 b)
def rawR (s : ByteArray) : Rec := ⟨getS s 2 1, getS s 4 4, getS s 8 6, getS s 14 1, s.extract 16 (16 + min (getS s 3 1) 20).toNat⟩
def decE (s : ByteArray) : Int := if s.size = 40 then if getS s 36 4 = sumW (s.extract 0 36) then if Qm (rawR s) = 0 ∧ encR (rawR s) = s then 0 else 3 else 4 else 2
def decR (s : ByteArray) : Rec := if decE s = 0 then rawR s else default
def QbB (r : Rec) : Bool := decide (r.kind = 1 ∨ r.kind = 2)
def QbV (r : Rec) : Rec × Bool := if Qm r = 0 ∧ QbB r = true then ({ r with move := min (r.move + 1) 255 }, true) else (default, false)
def QaA (s : ByteArray) : Rec × Bool := if decE s = 0 ∧ QbB (decR s) = true then (decR s, true) else (default, false)
def QaN (l : List ByteArray) : Nat → Int
 | 0 => 1099511627776
 | k + 1 => min (QaN l k) (decR (l.getD k ByteArray.empty)).version
def Qbi (l : List ByteArray) : Nat → Int
 | 0 => 0
 | k + 1 => max (Qbi l k) (decR (l.getD k ByteArray.empty)).version
def Q8 (l : List ByteArray) : Nat → ByteArray
 | 0 => ByteArray.empty
 | k + 1 => Q8 l k ++ (l.getD k ByteArray.empty).extract 0 36
def blkE (s : ByteArray) : Int := if decE s = 0 then if QbB (decR s) = true then 0 else 3 else decE s
def QY (l : List ByteArray) : Nat → Int
 | 0 => 0
 | k + 1 => if QY l k = 0 then blkE (l.getD k ByteArray.empty) else QY l k
def QaF (l : List ByteArray) : Int := if l.length = 0 ∨ 64 < l.length then 19 else QY l l.length
def QU (l : List ByteArray) : Rec := if QaF l = 0 then ⟨3, l.length, Qbi l l.length, 0, putS (QaN l l.length) 6 ++ putS (sumW (Q8 l l.length)) 4⟩ else default
theorem QtP {x y : Int} (hx : 0 ≤ x ∧ x < 281474976710656) (hy : 0 ≤ y ∧ y < 256) : orW (shW x) y = 256 * x + y := by
 obtain ⟨n, rfl⟩ := Int.eq_ofNat_of_zero_le hx.1
 obtain ⟨m, rfl⟩ := Int.eq_ofNat_of_zero_le hy.1
 have e0 : shW (n : Int) = ((256 * n : Nat) : Int) := by
  unfold shW
  rw [show min (8 : Int).toNat IntKind.i64.bits = 8 from rfl, show (2 : Int) ^ 8 = 256 from rfl, Qa _ (by omega) (by omega)]
  omega
 rw [e0]
 unfold orW
 have e1 : (BitVec.ofInt IntKind.i64.bits ((256 * n : Nat) : Int) ||| BitVec.ofInt IntKind.i64.bits (m : Int)).toNat = 256 * n + m := by
  show (BitVec.ofInt 64 ((256 * n : Nat) : Int) ||| BitVec.ofInt 64 (m : Int)).toNat = _
  rw [BitVec.toNat_or, BitVec.toNat_ofInt, BitVec.toNat_ofInt]
  rw [show (((256 * n : Nat) : Int) % ((2 ^ 64 : Nat) : Int)).toNat = 2 ^ 8 * n by omega, show ((m : Int) % ((2 ^ 64 : Nat) : Int)).toNat = m by omega]
  rw [← Nat.two_pow_add_eq_or_of_lt (show m < 2 ^ 8 by omega)]
 rw [e1, Qa _ (by omega) (by omega)]
 omega
theorem Qnc {b : ByteArray} {p size : Nat} {n : Int} (h0 : 0 ≤ n) (hn : n < 281474976710656) (hlt : n < 256 ^ size) (h : ∀ i, i < size → Qa8 b (p + i) = n / 256 ^ i % 256) : ∀ k, k ≤ size → Qdx b p size k = n / 256 ^ (size - k)
 | 0, _ => by
  show (0 : Int) = _
  rw [Nat.sub_zero, Int.ediv_eq_zero_of_lt h0 hlt]
 | k + 1, hk => by
  have ih := Qnc h0 hn hlt h k (by omega)
  show orW (shW (Qdx b p size k)) (Qa8 b (p + (size - 1 - k))) = _
  rw [ih, h _ (by omega)]
  have e : size - k = (size - (k + 1)) + 1 := by omega
  have e2 : size - 1 - k = size - (k + 1) := by omega
  rw [e, e2]
  generalize size - (k + 1) = j
  have hp : (0 : Int) < 256 ^ j := Int.pow_pos (by decide)
  have e3 : n / 256 ^ (j + 1) = n / 256 ^ j / 256 := by rw [Int.pow_succ, Int.ediv_ediv_of_nonneg (Int.le_of_lt hp)]
  rw [e3]
  generalize hq : n / 256 ^ j = q
  have hq0 : 0 ≤ q := by rw [← hq]; exact Int.ediv_nonneg h0 (Int.le_of_lt hp)
  have hqn : q ≤ n := by rw [← hq]; exact Int.ediv_le_self _ h0
  rw [QtP (by omega) (by omega)]
  omega
theorem QoJ {n : Int} (h0 : 0 ≤ n) {i : Nat} (hi : i < 8) : putB n i = n / 256 ^ i % 256 := by
 unfold putB
 have e1 : IntKind.i64.wrap (8 * (i : Int)) = 8 * (i : Int) := Qa _ (by omega) (by omega)
 have e2 : IntKind.u64.wrap (8 * (i : Int)) = 8 * (i : Int) := by rw [IntKind.wrap_u64]; omega
 have e3 : min (8 * (i : Int)).toNat IntKind.i64.bits = 8 * i := by
  show min (8 * (i : Int)).toNat 64 = 8 * i
  omega
 rw [e1, e2, e3, Int.fdiv_eq_ediv_of_nonneg _ (by exact Int.le_of_lt (Int.pow_pos (by decide)))]
 rw [IntKind.wrap_u8, Int.pow_mul]
 rfl
theorem QqX {a c : ByteArray} {n : Int} {k i : Nat} (hi : i < k) (h8 : k ≤ 8) (h0 : 0 ≤ n) : Qa8 (a ++ (putS n k ++ c)) (a.size + i) = n / 256 ^ i % 256 := by
 have hb : (a ++ (putS n k ++ c)).data.toList.getD (a.size + i) 0 = Qc6 (.int .u8 (putB n i)) := by
  simp only [ByteArray.data_append, Array.toList_append, List.getD]
  rw [List.getElem?_append_right (by simp)]
  have ha : a.size + i - a.data.toList.length = i := by simp
  rw [ha, List.getElem?_append_left (by unfold putS QQ; simp; exact hi)]
  unfold putS QQ
  simp [hi]
 unfold Qa8
 rw [hb, ← QoJ h0 (by omega)]
 have hr : 0 ≤ putB n i ∧ putB n i < 256 := by rw [QoJ h0 (by omega)]; omega
 have : (Qc6 (.int .u8 (putB n i))).toNat = (putB n i).toNat := by
  unfold Qc6
  simp
  omega
 rw [this, Qa _ (by omega) (by omega)]
 omega
theorem Qs2 {a c : ByteArray} {n : Int} {k : Nat} (h8 : k ≤ 6) (h0 : 0 ≤ n) (hlt : n < 256 ^ k) : getS (a ++ (putS n k ++ c)) a.size k = n := by
 unfold getS
 rw [if_neg (by simp only [ByteArray.size_append, QI]; omega)]
 have hn : n < 281474976710656 := Int.lt_of_lt_of_le hlt (by
  have : (256 : Int) ^ k ≤ 256 ^ 6 := by exact_mod_cast Nat.pow_le_pow_right (by decide) h8
  exact Int.le_trans this (by decide))
 rw [Qnc h0 hn hlt (fun i hi => QqX hi (by omega) h0) k (Nat.le_refl _)]
 rw [Nat.sub_self, Int.pow_zero, Int.ediv_one]
theorem QnK {a b c : ByteArray} {p : Nat} (hp : a.size = p) : (a ++ (b ++ c)).extract p (p + b.size) = b := by
 subst hp
 apply ByteArray.ext
 apply Array.ext'
 simp [ByteArray.data_append, ByteArray.data_extract]
 rw [List.drop_of_length_le (by simp), List.take_nil, List.nil_append]
 exact List.take_of_length_le (by simp)
theorem QnE {a b : ByteArray} : (a ++ b).extract 0 a.size = a := by
 apply ByteArray.ext
 apply Array.ext'
 simp [ByteArray.data_append, ByteArray.data_extract]
 exact List.take_of_length_le (by simp)
theorem QuZ {r : Rec} (h : Qm r = 0) : (QV r).size = 36 := by
 obtain ⟨_, _, h3⟩ := QaY h
 unfold QV
 simp only [ByteArray.size_append, QI, QaZ _ h3]
 rfl
theorem Qcw {r : Rec} (h : Qm r = 0) : encR r = QV r ++ putS (IntKind.i64.wrap (addU 0 (QV r))) 4 := if_pos h
theorem Qai {r : Rec} (h : Qm r = 0) : (encR r).size = 40 := by
 rw [Qcw h, ByteArray.size_append, QI, QuZ h]
theorem Qcs {s a c : ByteArray} {n : Int} {k p : Nat} (hs : s = a ++ (putS n k ++ c)) (hp : a.size = p) (h8 : k ≤ 6) (h0 : 0 ≤ n) (hlt : n < 256 ^ k) : getS s p k = n := by
 subst hs; subst hp; exact Qs2 h8 h0 hlt
theorem Qib {r : Rec} (h : Qm r = 0) : rawR (encR r) = r := by
 obtain ⟨h1, h2, h3⟩ := QaY h
 obtain ⟨z, hz⟩ : ∃ z, padS r.payload = r.payload ++ z := by
  unfold padS
  split
  ·exact ⟨_, rfl⟩
  ·exact ⟨ByteArray.empty, by rw [ByteArray.append_empty]⟩
 have ek : getS (encR r) 2 1 = r.kind := by
  refine Qcs (a := ⟨#[90, 65]⟩) (c := ?_) ?_ rfl (by decide) (by omega) (by show r.kind < 256; omega)
  rotate_left
  ·rw [Qcw h]; unfold QV; simp only [ByteArray.append_assoc]; rfl
 have es : getS (encR r) 3 1 = (r.payload.size : Int) := by
  refine Qcs (a := ⟨#[90, 65]⟩ ++ putS r.kind 1) (c := ?_) ?_ (by simp only [ByteArray.size_append, QI]; rfl) (by decide) (by omega) (by show (r.payload.size : Int) < 256; omega)
  rotate_left
  ·rw [Qcw h]; unfold QV; simp only [ByteArray.append_assoc]; rfl
 have eb : getS (encR r) 4 4 = r.block := by
  refine Qcs (a := ⟨#[90, 65]⟩ ++ (putS r.kind 1 ++ putS r.payload.size 1)) (c := ?_) ?_ (by simp only [ByteArray.size_append, QI]; rfl) (by decide) (by omega) (by show r.block < 4294967296; omega)
  rotate_left
  ·rw [Qcw h]; unfold QV; simp only [ByteArray.append_assoc]; rfl
 have ev : getS (encR r) 8 6 = r.version := by
  refine Qcs (a := ⟨#[90, 65]⟩ ++ (putS r.kind 1 ++ (putS r.payload.size 1 ++ putS r.block 4))) (c := ?_) ?_ (by simp only [ByteArray.size_append, QI]; rfl) (by decide) (by omega) (by show r.version < 281474976710656; omega)
  rotate_left
  ·rw [Qcw h]; unfold QV; simp only [ByteArray.append_assoc]; rfl
 have em : getS (encR r) 14 1 = r.move := by
  refine Qcs (a := ⟨#[90, 65]⟩ ++ (putS r.kind 1 ++ (putS r.payload.size 1 ++ (putS r.block 4 ++ putS r.version 6)))) (c := ?_) ?_ (by simp only [ByteArray.size_append, QI]; rfl) (by decide) (by omega) (by show r.move < 256; omega)
  rotate_left
  ·rw [Qcw h]; unfold QV; simp only [ByteArray.append_assoc]; rfl
 have ep : (encR r).extract 16 (16 + r.payload.size) = r.payload := by
  have e : encR r = (⟨#[90, 65]⟩ ++ (putS r.kind 1 ++ (putS r.payload.size 1 ++ (putS r.block 4 ++ (putS r.version 6 ++ (putS r.move 1 ++ ⟨#[0]⟩)))))) ++ (r.payload ++ (z ++ putS (IntKind.i64.wrap (addU 0 (QV r))) 4)) := by
   rw [Qcw h]
   generalize putS (IntKind.i64.wrap (addU 0 (QV r))) 4 = y
   unfold QV
   rw [hz]
   simp only [ByteArray.append_assoc]
  rw [e]
  exact QnK (by simp only [ByteArray.size_append, QI]; rfl)
 unfold rawR
 rw [ek, es, eb, ev, em]
 rw [show (16 + min (r.payload.size : Int) 20).toNat = 16 + r.payload.size by omega, ep]
theorem QoD {r : Rec} (h : Qm r = 0) : decE (encR r) = 0 ∧ decR (encR r) = r := by
 have hd : decE (encR r) = 0 := by
  unfold decE
  rw [if_pos (Qai h), if_pos, if_pos ⟨by rw [Qib h]; exact h, by rw [Qib h]⟩]
  have hb := QuZ h
  have hl := Qfq 0 (QV r)
  have e1 : (encR r).extract 0 36 = QV r := by rw [Qcw h, ← hb]; exact QnE
  rw [e1]
  unfold sumW
  rw [Qa _ (by omega) (by omega)]
  refine Qcs (a := QV r) (c := ByteArray.empty) ?_ hb (by decide) hl.1 (by show addU 0 (QV r) < 4294967296; exact hl.2)
  rw [ByteArray.append_empty, Qcw h, Qa _ (by omega) (by omega)]
 exact ⟨hd, by unfold decR; rw [if_pos hd, Qib h]⟩
theorem QjM {r : Rec} (h : Qm r = 0) (hk : QbB r = true) : blkE (encR r) = 0 ∧ QaA (encR r) = (r, true) := by
 obtain ⟨h1, h2⟩ := QoD h
 refine ⟨?_, ?_⟩
 ·unfold blkE; rw [if_pos h1, h2, if_pos hk]
 ·unfold QaA; rw [h1, h2, if_pos ⟨rfl, hk⟩]
end Go.Proofs
end
