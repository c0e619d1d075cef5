/- Contracts, lemmas; no condition. -/
import Derived.Test.YtmollgldghpbkaaGreatModBV
import Derived.Test.YtmollgldghpbkaaGreatAmFV
import Derived.Test.YtmollgldghpbkaaGreatEnvV
import Derived.Test.YtmollgldghpbkaaGreatModAV
set_option linter.all false
section
open Go Go.Am
namespace Go.Proofs
set_option maxRecDepth 20000
instance : PlainF Evt.cell := ⟨fun e j => by unfold Evt.cell; split <;> rfl⟩
instance : PlainF Ent.cell := ⟨fun e j => by unfold Ent.cell; split <;> rfl⟩
instance : PlainF Ret.cell := ⟨fun e j => by unfold Ret.cell; split <;> rfl⟩
instance : PlainF Req.cell := ⟨fun e j => by unfold Req.cell; split <;> rfl⟩
instance : PlainF Rng.cell := ⟨fun e j => by unfold Rng.cell; split <;> rfl⟩
instance : PlainF Wrk.cell := ⟨fun e j => by unfold Wrk.cell; split <;> rfl⟩
instance : PlainF QdN := ⟨fun e j => by unfold QdN; split <;> rfl⟩
instance : PlainF Zone.cell := ⟨fun e j => by unfold Zone.cell; split <;> rfl⟩
instance : PlainF (fun (l : List Ent) (_ : Nat) => Qaw l) := ⟨fun e j => rfl⟩
instance {q : IntKind} : PlainF (intC q) := ⟨fun e j => rfl⟩
def QaX (r : List Ret) (z : Int) : Bool := r.any fun x => decide (x.zone = z)
def canV (s : St) (z : Int) : Bool := QO s.cfg z && (decide (z < s.dev.zones.length ∧ z < s.live.length ∧ z < s.pend.length) && (decide ((s.dev.zones.getD z.toNat default).state = 4 ∧ s.pend.getD z.toNat default = 0 ∧ z ≠ s.host ∧ z ≠ s.lane) && (!QaX s.rets z && decide (s.live.getD z.toNat default < s.cfg.size - 1))))
def QT (s : St) : Nat → Nat × Bool
 | 0 => (0, false)
 | k + 1 => if canV s k = true ∧ ((QT s k).2 = false ∨ s.live.getD k default < s.live.getD (QT s k).1 default) then (k, true) else QT s k
def QQ (s : St) : Nat × Bool := QT s s.dev.zones.length
theorem canV_iff {s : St} {z : Int} : canV s z = true ↔ QO s.cfg z = true ∧ (z < s.dev.zones.length ∧ z < s.live.length ∧ z < s.pend.length) ∧ ((s.dev.zones.getD z.toNat default).state = 4 ∧ s.pend.getD z.toNat default = 0 ∧ z ≠ s.host ∧ z ≠ s.lane) ∧ QaX s.rets z = false ∧ s.live.getD z.toNat default < s.cfg.size - 1 := by
 unfold canV
 simp only [Bool.and_eq_true, decide_eq_true_eq, Bool.not_eq_true']
theorem Qhb {s : St} : ∀ {k : Nat}, (QT s k).2 = true → (QT s k).1 < k ∧ canV s (QT s k).1 = true
 | 0, h => by cases h
 | k + 1, h => by
  unfold QT at h ⊢
  split
  ·rename_i c; exact ⟨by simp, c.1⟩
  ·rename_i c
   rw [if_neg c] at h
   have := Qhb h
   exact ⟨om, this.2⟩
theorem Qo6 {s : St} : ∀ {k : Nat}, (QT s k).2 = false → (QT s k).1 = 0
 | 0, _ => rfl
 | k + 1, h => by
  unfold QT at h ⊢
  split
  ·rename_i c; rw [if_pos c] at h; cases h
  ·rename_i c
   rw [if_neg c] at h
   exact Qo6 h
theorem Qbr {c : Conf} {z : Int} (h : QO c z = true) : 0 ≤ z ∧ z < c.zones ∧ QbQ c = true := by
 unfold QO at h
 rw [decide_eq_true_eq] at h
 have hr := (Qv h.1).1
 have := Qae hr
 exact ⟨om, h.2.2, hr⟩
def Qj9 (s : St) : Bool := Qz s && ((QQ s).2 || (decide (0 < s.rets.length) || ((s.pend.any fun x => decide (0 < x)) || (decide (s.cln.state ≠ 0) || (decide (s.sav.state ≠ 0) || (s.want || Qj6 s))))))
def Qy (l : List Ent) (b : Int) : Nat := l.findIdx fun e => decide (b ≤ e.block)
theorem Qfv (l : List Ent) (b : Int) : Qy l b ≤ l.length := List.findIdx_le_length
theorem Qv4 {l : List Ent} {b : Int} {k : Nat} (hk : k ≤ l.length) (h : ∀ i, i < k → (l.getD i default).block < b) (he : k = l.length ∨ b ≤ (l.getD k default).block) : Qy l b = k := by
 unfold Qy
 rcases he with rfl | he
 ·refine List.findIdx_eq_length.2 fun x hx => ?_
  obtain ⟨i, hi, rfl⟩ := List.getElem_of_mem hx
  have := h i hi
  rw [show l.getD i default = l[i] by simp [List.getD, hi]] at this
  exact decide_eq_false om
 ·by_cases c : k < l.length
  ·rw [List.findIdx_eq c]
   refine ⟨?_, fun j hj => ?_⟩
   ·rw [show l.getD k default = l[k] by simp [List.getD, c]] at he
    exact decide_eq_true he
   ·have := h j hj
    rw [show l.getD j default = l[j] by simp [List.getD, show j < l.length by omega]] at this
    exact decide_eq_false om
  ·have : k = l.length := by omega
   subst this
   refine List.findIdx_eq_length.2 fun x hx => ?_
   obtain ⟨i, hi, rfl⟩ := List.getElem_of_mem hx
   have := h i hi
   rw [show l.getD i default = l[i] by simp [List.getD, hi]] at this
   exact decide_eq_false om
theorem Qsy {l : List Ent} {b : Int} {i : Nat} (h : i < Qy l b) : (l.getD i default).block < b := by
 have hl : i < l.length := Nat.lt_of_lt_of_le h (Qfv l b)
 have := List.not_of_lt_findIdx h
 rw [show l.getD i default = l[i] by simp [List.getD, hl]]
 simpa using this
theorem Qst {l : List Ent} {b : Int} (h : Qy l b < l.length) : b ≤ (l.getD (Qy l b) default).block := by
 have := List.findIdx_getElem (p := fun (e : Ent) => decide (b ≤ e.block)) (xs := l) (w := h)
 rw [show l.getD (Qy l b) default = l[Qy l b] by simp [List.getD, h]]
 exact of_decide_eq_true this
def hasM (l : List Ent) (b : Int) : Bool := decide (Qy l b < l.length ∧ (l.getD (Qy l b) default).block = b)
def QY (l : List Ent) (b : Int) : Ent × Bool := if Q0 l = true ∧ hasM l b = true then (l.getD (Qy l b) default, true) else (default, false)
def putE (l : List Ent) (e : Ent) : List Ent := l.take (Qy l e.block) ++ e :: l.drop (if hasM l e.block = true then Qy l e.block + 1 else Qy l e.block)
def Qa6 (l : List Ent) (e : Ent) : List Ent × Ent × Bool :=
 if Q0 l = true then
  if Qbl e = true then
   if (QY l e.block).2 = true ∧ e.version ≤ (QY l e.block).1.version then (l, (QY l e.block).1, false)
   else (putE l e, (QY l e.block).1, true)
  else (l, default, false)
 else ([], default, false)
def relE (l : List Ent) (b v fz fo tz to move : Int) : List Ent × Bool :=
 if Q0 l = true then
  if (QY l b).2 = true ∧ (QY l b).1.version = v ∧ (QY l b).1.zone = fz ∧ (QY l b).1.offset = fo ∧ 0 ≤ tz ∧ 0 ≤ to ∧ 0 ≤ move ∧ move ≤ 255 then
   (l.set (Qy l b) { (QY l b).1 with zone := tz, offset := to, move := move }, true)
  else (l, false)
 else ([], false)
def QG (m : List (List Ent)) (b : Int) : Nat := (b.tmod m.length).toNat
def Qdf (m : List (List Ent)) (b : Int) : Ent × Bool := if Qu m = true ∧ 0 ≤ b then QY (m.getD (QG m b) default) b else (default, false)
def QaY (m : List (List Ent)) (e : Ent) : List (List Ent) × Ent × Bool :=
 if Qu m = true ∧ 0 ≤ e.block then
  if (Qa6 (m.getD (QG m e.block) default) e).2.2 = true then (m.set (QG m e.block) (Qa6 (m.getD (QG m e.block) default) e).1, (Qa6 (m.getD (QG m e.block) default) e).2.1, true)
  else (m, (Qa6 (m.getD (QG m e.block) default) e).2.1, false)
 else (m, default, false)
def relM (m : List (List Ent)) (b v fz fo tz to move : Int) : List (List Ent) × Bool :=
 if Qu m = true ∧ 0 ≤ b then
  if (relE (m.getD (QG m b) default) b v fz fo tz to move).2 = true then (m.set (QG m b) (relE (m.getD (QG m b) default) b v fz fo tz to move).1, true) else (m, false)
 else (m, false)
theorem Qbp {m : List (List Ent)} (h : Qu m = true) : 1 ≤ m.length ∧ m.length ≤ 8 := by
 unfold Qu at h
 simp only [Bool.and_eq_true, decide_eq_true_eq] at h
 exact h.1
theorem Qb7 {m : List (List Ent)} (h : Qu m = true) {i : Nat} (hi : i < m.length) : Q0 (m.getD i default) = true ∧ QaD (m.getD i default) m.length i = true := by
 unfold Qu at h
 simp only [Bool.and_eq_true, decide_eq_true_eq] at h
 exact h.2 i hi
theorem Qdt {m : List (List Ent)} (h : Qu m = true) {b : Int} (hb : 0 ≤ b) : QG m b < m.length := by
 have := Qbp h
 unfold QG
 have h1 := Int.tmod_nonneg (m.length : Int) hb
 have h2 := Int.tmod_lt_of_pos b (show 0 < (m.length : Int) by omega)
 omega
theorem QfE {m : List (List Ent)} (h : Qu m = true) {b : Int} (hb : 0 ≤ b) : (QG m b : Int) = b.tmod m.length := by
 have := Qbp h
 have h1 := Int.tmod_nonneg (m.length : Int) hb
 unfold QG
 omega
def Qbe (l : List Ent) (b : Int) : Nat → Nat
 | 0 => 0
 | k + 1 => if b < (l.getD k default).block then Qbe l b k else k + 1
theorem QiP (l : List Ent) (b : Int) : ∀ k, Qbe l b k ≤ k
 | 0 => Nat.le_refl _
 | k + 1 => by
  have := QiP l b k
  unfold Qbe
  split <;> omega
def insE (l : List Ent) (x : Ent) : List Ent := l.take (Qbe l x.block l.length) ++ x :: l.drop (Qbe l x.block l.length)
theorem Qm4 (l : List Ent) (x : Ent) : (insE l x).length = l.length + 1 := by
 have := QiP l x.block l.length
 simp [insE]; omega
def allM (m : List (List Ent)) : List Ent := m.flatten.foldl insE []
def allS (m : List (List Ent)) : List Ent := if Qu m = true then allM m else []
theorem Qp {α : Type} [Inhabited α] (l : List α) (i : Nat) (h : i < l.length) : l.getD i default = l[i] := by simp [List.getD, h]
def Asc (l : List Ent) : Prop := l.Pairwise fun a b => a.block < b.block
theorem Qi1 {l : List Ent} {b : Int} : ∀ {k : Nat}, k ≤ l.length → (∀ i, Qbe l b k ≤ i → i < k → b < (l.getD i default).block) ∧ (0 < Qbe l b k → (l.getD (Qbe l b k - 1) default).block ≤ b)
 | 0, _ => ⟨fun i _ h => by omega, fun h => by simp [Qbe] at h⟩
 | k + 1, hk => by
  obtain ⟨h1, h2⟩ := Qi1 (l := l) (b := b) (k := k) om
  unfold Qbe
  split
  ·rename_i c
   refine ⟨fun i hi hik => ?_, h2⟩
   by_cases e : i = k
   ·subst e; exact c
   ·exact h1 i hi om
  ·rename_i c
   exact ⟨fun i hi hik => by omega, fun _ => by simpa using Int.not_lt.1 c⟩
theorem Asc.get {l : List Ent} (h : Asc l) {i j : Nat} (hi : i < j) (hj : j < l.length) : (l.getD i default).block < (l.getD j default).block := by
 rw [Qp _ _ om, Qp _ _ hj]
 exact List.pairwise_iff_getElem.1 h i j om hj hi
theorem Qsl (l : List Ent) (x : Ent) : (insE l x).Perm (x :: l) := by
 unfold insE
 refine (List.perm_middle).trans ?_
 rw [List.take_append_drop]
theorem QuC {l : List Ent} {x : Ent} (h : Asc l) (hx : ∀ e ∈ l, e.block ≠ x.block) : Asc (insE l x) := by
 obtain ⟨s1, s2⟩ := Qi1 (l := l) (b := x.block) (k := l.length) (Nat.le_refl _)
 have sl := QiP l x.block l.length
 generalize hs : Qbe l x.block l.length = s at *
 unfold insE
 rw [hs]
 have lo : ∀ i, i < s → (l.getD i default).block < x.block := fun i hi => by
  have h1 := s2 om
  have h2 := hx (l.getD (s - 1) default) (by rw [Qp _ _ (show s - 1 < l.length by omega)]; exact List.getElem_mem _)
  have h3 : (l.getD (s - 1) default).block < x.block := by omega
  by_cases e : i = s - 1
  ·rw [e]; exact h3
  ·have := h.get (i := i) (j := s - 1) om om
   omega
 refine List.pairwise_append.2 ⟨List.Pairwise.sublist (List.take_sublist _ _) h, ?_, ?_⟩
 ·refine List.pairwise_cons.2 ⟨fun e he => ?_, List.Pairwise.sublist (List.drop_sublist _ _) h⟩
  obtain ⟨i, hi, rfl⟩ := List.getElem_of_mem he
  rw [List.length_drop] at hi
  have := s1 (s + i) om om
  rw [Qp _ _ om] at this
  simpa using this
 ·intro a ha b hb
  obtain ⟨i, hi, rfl⟩ := List.getElem_of_mem ha
  rw [List.length_take] at hi
  have hl := lo i om
  rw [Qp _ _ om] at hl
  have ea : (l.take s)[i]'(by rw [List.length_take]; omega) = l[i]'om := by simp
  rw [ea]
  rcases List.mem_cons.1 hb with rfl | hb
  ·exact hl
  ·obtain ⟨j, hj, rfl⟩ := List.getElem_of_mem hb
   rw [List.length_drop] at hj
   have := s1 (s + j) om om
   rw [Qp _ _ om] at this
   simp only [List.getElem_drop]
   omega
theorem QvP {l : List Ent} : ∀ {out : List Ent}, Asc out → (∀ e ∈ out, ∀ x ∈ l, e.block ≠ x.block) → (l.map Ent.block).Nodup → Asc (l.foldl insE out) ∧ (l.foldl insE out).Perm (l ++ out) := by
 induction l with
 | nil => intro out h _ _; exact ⟨h, List.Perm.refl _⟩
 | cons x l ih =>
  intro out h hx hn
  simp only [List.map_cons, List.nodup_cons] at hn
  have h1 := QuC h fun e he => hx e he x (List.mem_cons_self ..)
  have h2 := Qsl out x
  obtain ⟨i1, i2⟩ := ih (out := insE out x) h1 (fun e he y hy => by
   have := h2.mem_iff.1 he
   rcases List.mem_cons.1 this with rfl | he
   ·exact fun q => hn.1 (q ▸ List.mem_map_of_mem hy)
   ·exact hx e he y (List.mem_cons_of_mem _ hy)) hn.2
  refine ⟨i1, i2.trans ?_⟩
  refine (List.Perm.append_left l h2).trans ?_
  exact List.perm_middle
theorem Qhh {m : List (List Ent)} (h : Qu m = true) {i : Nat} (hi : i < m.length) {e : Ent} (he : e ∈ m.getD i default) : e.block.tmod m.length = i ∧ Qbl e = true := by
 obtain ⟨h1, h2⟩ := Qb7 h hi
 obtain ⟨k, hk, rfl⟩ := List.getElem_of_mem he
 unfold QaD at h2
 unfold Q0 at h1
 rw [decide_eq_true_eq] at h1 h2
 have a := h2 k hk
 have b := (h1 k hk).1
 rw [Qp _ _ hk] at a b
 exact ⟨a, b⟩
theorem Qfx {l : List Ent} (h : Q0 l = true) : Asc l := by
 unfold Q0 at h
 rw [decide_eq_true_eq] at h
 have key : ∀ d i, i + d + 1 < l.length → (l.getD i default).block < (l.getD (i + d + 1) default).block := by
  intro d
  induction d with
  | zero => intro i hi; exact (h (i + 1) hi).2 om
  | succ d ih =>
   intro i hi
   have h1 := ih i om
   have h2 := (h (i + (d + 1) + 1) hi).2 om
   rw [show i + (d + 1) + 1 - 1 = i + d + 1 by omega] at h2
   omega
 refine List.pairwise_iff_getElem.2 fun i j hi hj hij => ?_
 have := key (j - i - 1) i om
 rw [show i + (j - i - 1) + 1 = j by omega, Qp _ _ hi, Qp _ _ hj] at this
 exact this
theorem Qje {m : List (List Ent)} (h : Qu m = true) : (m.flatten.map Ent.block).Nodup := by
 rw [List.map_flatten, List.Nodup, List.pairwise_flatten]
 constructor
 ·intro l hl
  obtain ⟨x, hx, rfl⟩ := List.mem_map.1 hl
  obtain ⟨i, hi, rfl⟩ := List.getElem_of_mem hx
  have := Qfx (Qb7 h hi).1
  rw [Qp _ _ hi] at this
  exact List.pairwise_map.2 (this.imp fun h => by omega)
 ·rw [List.pairwise_map, List.pairwise_iff_getElem]
  intro i j hi hj hij a ha b hb hab
  subst hab
  obtain ⟨e, he, rfl⟩ := List.mem_map.1 ha
  obtain ⟨e', he', h3⟩ := List.mem_map.1 hb
  have h1 := (Qhh h hi (e := e) (by rw [Qp _ _ hi]; exact he)).1
  have h2 := (Qhh h hj (e := e') (by rw [Qp _ _ hj]; exact he')).1
  rw [h3, h1] at h2
  omega
theorem QbO {m : List (List Ent)} (h : Qu m = true) : Asc (allM m) ∧ (allM m).Perm m.flatten := by
 have := QvP (l := m.flatten) (out := []) List.Pairwise.nil (fun e he => by cases he) (Qje h)
 rw [List.append_nil] at this
 exact this
theorem Qs6 {m : List (List Ent)} (h : Qu m = true) {l : List Ent} (hp : l.Perm m.flatten) (hs : l.Pairwise fun a b => ¬ b.block < a.block) : l = allM m := by
 obtain ⟨a1, a2⟩ := QbO h
 refine List.Perm.eq_of_pairwise (le := fun a b => ¬ b.block < a.block) (fun a b ha hb h1 h2 => ?_) hs (a1.imp fun h => by omega) (hp.trans a2.symm)
 have hb' := a2.mem_iff.1 hb
 have ha' := hp.mem_iff.1 ha
 have hn := Qje h
 obtain ⟨i, hi, rfl⟩ := List.getElem_of_mem ha'
 obtain ⟨j, hj, rfl⟩ := List.getElem_of_mem hb'
 have hne : i = j := by
  refine Decidable.byContradiction fun hij => ?_
  have hp := List.pairwise_iff_getElem.1 hn
  have hi' : i < (m.flatten.map Ent.block).length := by rw [List.length_map]; exact hi
  have hj' : j < (m.flatten.map Ent.block).length := by rw [List.length_map]; exact hj
  rcases Nat.lt_or_gt_of_ne hij with c | c
  ·exact hp i j hi' hj' c (by rw [List.getElem_map, List.getElem_map]; omega)
  ·exact hp j i hj' hi' c (by rw [List.getElem_map, List.getElem_map]; omega)
 subst hne
 rfl
theorem QiE {m : List (List Ent)} (h : Qu m = true) (e : Ent) : e ∈ allM m ↔ ∃ i, i < m.length ∧ e ∈ m.getD i default := by
 rw [(QbO h).2.mem_iff, List.mem_flatten]
 constructor
 ·rintro ⟨l, h1, h2⟩
  obtain ⟨i, hi, rfl⟩ := List.getElem_of_mem h1
  exact ⟨i, hi, by rw [Qp _ _ hi]; exact h2⟩
 ·rintro ⟨i, hi, he⟩
  rw [Qp _ _ hi] at he
  exact ⟨_, List.getElem_mem hi, he⟩
theorem QqZ (l : List Int) : PS 8 [.c (Qi l)] (.c (.bool (decide (l.length ≤ 300)))) := by
 refine PSpec.rm ?_
 refine ov hΓ Tryz.func8 6 0 [.tmp 2] Tryz.ntmps8 Tryz.results8 ?_
 refine Go1 fun _h=>?_
 refine RM.i1 ?_
 exact decide_eq_decide.2 om
theorem QrK : HB 8 := hB Tryz.func8
theorem QeY (x n : Int) : PS 42 [.c (.int .i64 x), .c (.int .i64 n)] (.c (.int .i64 (modI x n))) := by
 refine PSpec.rm ?_
 refine ov0 hΓ Tryz.func42 14 0 [.tmp 4] Tryz.ntmps42 Tryz.results42 ?_
 refine Br.of (fun h=>Go0 ?_) (fun h=>Go0 ?_)
 ·rw [Qsn om]
  exact RM.i0
 ·rw [show modI x n = (IntKind.i64.wrap (x.tmod n + n)).tmod n from if_neg om]
  exact RM.i0
theorem QeW : HB 42 := hB Tryz.func42
theorem Qla (l : List Int) (hl : l.length ≤ 10000000) : CS 18 [.c (Qi l)] [] fun s H => s = .c (.ptr 0 0) ∧ H = [.vr (DiceM.cells ⟨l, 0⟩)] := by
 refine CSpec.rm ?_
 refine ov0 hΓ Tryz.func18 8 0 [.tmp 2] Tryz.ntmps18 Tryz.results18 ?_
 refine ⟨_, _, ?_, rfl, rfl⟩
 refine RM.rg 0 (g' := Qam .i64 l) rfl (fun i _ j _ => Qlx j) rfl ?_
 refine RM.fz 0 rfl (Nat.zero_le _) (fun i _ j _ => rfl) ?_
 exact RM.renW [1] (by decide) wb0 wb0
theorem QkY : HB 18 := hB Tryz.func18
theorem Qm (d : DiceM) (hd : d.ok) (n : Int) : CS 38 [.c (.ptr 0 0), .c (.int .i64 n)] [.vr d.cells] fun s H => s = .c (.int .i64 (d.next n)) ∧ H = [.vr d.step.cells] := by
 refine CSpec.rm ?_
 refine ov hΓ Tryz.func38 35 1 [.tmp 4] Tryz.ntmps38 Tryz.results38 ?_
 have h1 := hd.le
 have h2 := hd.len
 refine Go0 ?_
 refine Dr.mk hΓ hMix (by kernel_rfl) (Go0 ?_)
 refine Br.of (fun h=>Go0 ?_) (fun h=>Go0 ?_)
 ·have h' : d.l.length ≤ d.at_ := by omega
  refine ⟨_, _, ?_, rfl, rfl⟩
  rw [show d.step = d from if_pos h', show d.next n = 0 from if_pos h']
  exact RM.w0
 ·have h' : ¬ d.l.length ≤ d.at_ := by omega
  have w0 := Qa (↑d.at_ + 1) om om
  have w1 := Qa (↑d.at_ + 1 - 1) om om
  refine Dr.mk hΓ hMix (by kernel_rfl) (Go0 ?_)
  have e0 : (IntKind.i64.wrap (IntKind.i64.wrap (↑d.at_ + 1) - 1)).toNat = d.at_ := by rw [w0, w1]; omega
  rw [e0]
  refine CallP.auto QeW (QeY (d.l.getD d.at_ 0) n ) (Go0 ?_)
  refine ⟨_, _, ?_, rfl, rfl⟩
  rw [show d.step = ⟨d.l, d.at_ + 1⟩ from if_neg h', show d.next n = modI (d.l.getD d.at_ 0) n from if_neg h']
  exact RM.w0
theorem Ql : HB 38 := hB Tryz.func38
end Go.Proofs
end
