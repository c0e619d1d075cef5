/- Part of the proofs of laws of this seat: contracts and plain lemmas; no condition is added to a statement. -/
import Derived.Test.YtmollgldghpbkaaGreatModB
import Derived.Test.YtmollgldghpbkaaGreatAmF
import Derived.Test.YtmollgldghpbkaaGreatEnv
import Derived.Test.YtmollgldghpbkaaGreatModA
set_option linter.unusedSimpArgs false
set_option linter.unusedVariables false
section
open Go Go.Am
namespace Go.Proofs
instance : PlainF Evt.cell := ⟨fun e j => by unfold Evt.cell; split <;> rfl⟩
instance : PlainF Ent.cell := ⟨fun e j => by unfold Ent.cell; split <;> rfl⟩
instance : PlainF Ret.cell := ⟨fun e j => by unfold Ret.cell; split <;> rfl⟩
instance : PlainF Req.cell := ⟨fun e j => by unfold Req.cell; split <;> rfl⟩
instance : PlainF Rng.cell := ⟨fun e j => by unfold Rng.cell; split <;> rfl⟩
instance : PlainF Wrk.cell := ⟨fun e j => by unfold Wrk.cell; split <;> rfl⟩
instance : PlainF recCellN := ⟨fun e j => by unfold recCellN; split <;> rfl⟩
instance : PlainF Zone.cell := ⟨fun e j => by unfold Zone.cell; split <;> rfl⟩
instance : PlainF (fun (l : List Ent) (_ : Nat) => entsC l) := ⟨fun e j => rfl⟩
instance {q : IntKind} : PlainF (intC q) := ⟨fun e j => rfl⟩
end Go.Proofs
end

section
open Go Go.Am
namespace Go.Proofs
def isRet (r : List Ret) (z : Int) : Bool := r.any fun x => decide (x.zone = z)
def canV (s : St) (z : Int) : Bool := isDataM s.cfg z && (decide (z < s.dev.zones.length ∧ z < s.live.length ∧ z < s.pend.length) && (decide ((s.dev.zones.getD z.toNat default).state = 4 ∧ s.pend.getD z.toNat default = 0 ∧ z ≠ s.host ∧ z ≠ s.lane) && (!isRet s.rets z && decide (s.live.getD z.toNat default < s.cfg.size - 1))))
def bestTo (s : St) : Nat → Nat × Bool
  | 0 => (0, false)
  | k + 1 => if canV s k = true ∧ ((bestTo s k).2 = false ∨ s.live.getD k default < s.live.getD (bestTo s k).1 default) then (k, true) else bestTo s k
def chooseV (s : St) : Nat × Bool := bestTo s s.dev.zones.length
theorem canV_iff {s : St} {z : Int} : canV s z = true ↔ isDataM s.cfg z = true ∧ (z < s.dev.zones.length ∧ z < s.live.length ∧ z < s.pend.length) ∧ ((s.dev.zones.getD z.toNat default).state = 4 ∧ s.pend.getD z.toNat default = 0 ∧ z ≠ s.host ∧ z ≠ s.lane) ∧ isRet s.rets z = false ∧ s.live.getD z.toNat default < s.cfg.size - 1 := by
  unfold canV
  simp only [Bool.and_eq_true, decide_eq_true_eq, Bool.not_eq_true']
theorem bestTo_lt {s : St} : ∀ {k : Nat}, (bestTo s k).2 = true → (bestTo s k).1 < k ∧ canV s (bestTo s k).1 = true
  | 0, h => by cases h
  | k + 1, h => by
    unfold bestTo at h ⊢
    split
    · rename_i c; exact ⟨by simp, c.1⟩
    · rename_i c
      rw [if_neg c] at h
      have := bestTo_lt h
      exact ⟨by omega, this.2⟩
theorem bestTo_zero {s : St} : ∀ {k : Nat}, (bestTo s k).2 = false → (bestTo s k).1 = 0
  | 0, _ => rfl
  | k + 1, h => by
    unfold bestTo at h ⊢
    split
    · rename_i c; rw [if_pos c] at h; cases h
    · rename_i c
      rw [if_neg c] at h
      exact bestTo_zero h
theorem isDataM_nonneg {c : Conf} {z : Int} (h : isDataM c z = true) : 0 ≤ z ∧ z < c.zones ∧ confR c = true := by
  unfold isDataM at h
  rw [decide_eq_true_eq] at h
  have hr := (confE_r h.1).1
  have := slot_range hr
  exact ⟨by omega, h.2.2, hr⟩
def hopeS (s : St) : Bool := validS s && ((chooseV s).2 || (decide (0 < s.rets.length) || ((s.pend.any fun x => decide (0 < x)) || (decide (s.cln.state ≠ 0) || (decide (s.sav.state ≠ 0) || (s.want || dropS s))))))
end Go.Proofs
end

section
open Go Go.Am
namespace Go.Proofs
def placeM (l : List Ent) (b : Int) : Nat := l.findIdx fun e => decide (b ≤ e.block)
def hasM (l : List Ent) (b : Int) : Bool := decide (placeM l b < l.length ∧ (l.getD (placeM l b) default).block = b)
def findE (l : List Ent) (b : Int) : Ent × Bool := if shardOk l = true ∧ hasM l b = true then (l.getD (placeM l b) default, true) else (default, false)
def putE (l : List Ent) (e : Ent) : List Ent := l.take (placeM l e.block) ++ e :: l.drop (if hasM l e.block = true then placeM l e.block + 1 else placeM l e.block)
def instE (l : List Ent) (e : Ent) : List Ent × Ent × Bool :=
  if shardOk l = true then
    if entOk e = true then
      if (findE l e.block).2 = true ∧ e.version ≤ (findE l e.block).1.version then (l, (findE l e.block).1, false)
      else (putE l e, (findE l e.block).1, true)
    else (l, default, false)
  else ([], default, false)
def relE (l : List Ent) (b v fz fo tz to move : Int) : List Ent × Bool :=
  if shardOk l = true then
    if (findE l b).2 = true ∧ (findE l b).1.version = v ∧ (findE l b).1.zone = fz ∧ (findE l b).1.offset = fo ∧ 0 ≤ tz ∧ 0 ≤ to ∧ 0 ≤ move ∧ move ≤ 255 then
      (l.set (placeM l b) { (findE l b).1 with zone := tz, offset := to, move := move }, true)
    else (l, false)
  else ([], false)
def stripeN (m : List (List Ent)) (b : Int) : Nat := (b.tmod m.length).toNat
def lookM (m : List (List Ent)) (b : Int) : Ent × Bool := if mapOk m = true ∧ 0 ≤ b then findE (m.getD (stripeN m b) default) b else (default, false)
def instM (m : List (List Ent)) (e : Ent) : List (List Ent) × Ent × Bool :=
  if mapOk m = true ∧ 0 ≤ e.block then
    if (instE (m.getD (stripeN m e.block) default) e).2.2 = true then (m.set (stripeN m e.block) (instE (m.getD (stripeN m e.block) default) e).1, (instE (m.getD (stripeN m e.block) default) e).2.1, true)
    else (m, (instE (m.getD (stripeN m e.block) default) e).2.1, false)
  else (m, default, false)
def relM (m : List (List Ent)) (b v fz fo tz to move : Int) : List (List Ent) × Bool :=
  if mapOk m = true ∧ 0 ≤ b then
    if (relE (m.getD (stripeN m b) default) b v fz fo tz to move).2 = true then (m.set (stripeN m b) (relE (m.getD (stripeN m b) default) b v fz fo tz to move).1, true) else (m, false)
  else (m, false)
theorem mapOk_len {m : List (List Ent)} (h : mapOk m = true) : 1 ≤ m.length ∧ m.length ≤ 8 := by
  unfold mapOk at h
  simp only [Bool.and_eq_true, decide_eq_true_eq] at h
  exact h.1
theorem mapOk_get {m : List (List Ent)} (h : mapOk m = true) {i : Nat} (hi : i < m.length) : shardOk (m.getD i default) = true ∧ inStripe (m.getD i default) m.length i = true := by
  unfold mapOk at h
  simp only [Bool.and_eq_true, decide_eq_true_eq] at h
  exact h.2 i hi
def scanE (l : List Ent) (b : Int) : Nat → Nat
  | 0 => 0
  | k + 1 => if b < (l.getD k default).block then scanE l b k else k + 1
theorem scanE_le (l : List Ent) (b : Int) : ∀ k, scanE l b k ≤ k
  | 0 => Nat.le_refl _
  | k + 1 => by
    have := scanE_le l b k
    unfold scanE
    split <;> omega
def insE (l : List Ent) (x : Ent) : List Ent := l.take (scanE l x.block l.length) ++ x :: l.drop (scanE l x.block l.length)
def allM (m : List (List Ent)) : List Ent := m.flatten.foldl insE []
def allS (m : List (List Ent)) : List Ent := if mapOk m = true then allM m else []
end Go.Proofs
end

section
open Go Go.Am
namespace Go.Proofs
theorem getD_of {α : Type} [Inhabited α] (l : List α) (i : Nat) (h : i < l.length) : l.getD i default = l[i] := by simp [List.getD, h]
def Asc (l : List Ent) : Prop := l.Pairwise fun a b => a.block < b.block
theorem scanE_spec {l : List Ent} {b : Int} : ∀ {k : Nat}, k ≤ l.length → (∀ i, scanE l b k ≤ i → i < k → b < (l.getD i default).block) ∧ (0 < scanE l b k → (l.getD (scanE l b k - 1) default).block ≤ b)
  | 0, _ => ⟨fun i _ h => by omega, fun h => by simp [scanE] at h⟩
  | k + 1, hk => by
    obtain ⟨h1, h2⟩ := scanE_spec (l := l) (b := b) (k := k) (by omega)
    unfold scanE
    split
    · rename_i c
      refine ⟨fun i hi hik => ?_, h2⟩
      by_cases e : i = k
      · subst e; exact c
      · exact h1 i hi (by omega)
    · rename_i c
      exact ⟨fun i hi hik => by omega, fun _ => by simpa using Int.not_lt.1 c⟩
theorem Asc.get {l : List Ent} (h : Asc l) {i j : Nat} (hi : i < j) (hj : j < l.length) : (l.getD i default).block < (l.getD j default).block := by
  rw [getD_of _ _ (by omega), getD_of _ _ hj]
  exact List.pairwise_iff_getElem.1 h i j (by omega) hj hi
theorem insE_perm (l : List Ent) (x : Ent) : (insE l x).Perm (x :: l) := by
  unfold insE
  refine (List.perm_middle).trans ?_
  rw [List.take_append_drop]
theorem insE_asc {l : List Ent} {x : Ent} (h : Asc l) (hx : ∀ e ∈ l, e.block ≠ x.block) : Asc (insE l x) := by
  obtain ⟨s1, s2⟩ := scanE_spec (l := l) (b := x.block) (k := l.length) (Nat.le_refl _)
  have sl := scanE_le l x.block l.length
  generalize hs : scanE l x.block l.length = s at *
  unfold insE
  rw [hs]
  have lo : ∀ i, i < s → (l.getD i default).block < x.block := fun i hi => by
    have h1 := s2 (by omega)
    have h2 := hx (l.getD (s - 1) default) (by rw [getD_of _ _ (show s - 1 < l.length by omega)]; exact List.getElem_mem _)
    have h3 : (l.getD (s - 1) default).block < x.block := by omega
    by_cases e : i = s - 1
    · rw [e]; exact h3
    · have := h.get (i := i) (j := s - 1) (by omega) (by omega)
      omega
  refine List.pairwise_append.2 ⟨List.Pairwise.sublist (List.take_sublist _ _) h, ?_, ?_⟩
  · refine List.pairwise_cons.2 ⟨fun e he => ?_, List.Pairwise.sublist (List.drop_sublist _ _) h⟩
    obtain ⟨i, hi, rfl⟩ := List.getElem_of_mem he
    rw [List.length_drop] at hi
    have := s1 (s + i) (by omega) (by omega)
    rw [getD_of _ _ (by omega)] at this
    simpa using this
  · intro a ha b hb
    obtain ⟨i, hi, rfl⟩ := List.getElem_of_mem ha
    rw [List.length_take] at hi
    have hl := lo i (by omega)
    rw [getD_of _ _ (by omega)] at hl
    have ea : (l.take s)[i]'(by rw [List.length_take]; omega) = l[i]'(by omega) := by simp
    rw [ea]
    rcases List.mem_cons.1 hb with rfl | hb
    · exact hl
    · obtain ⟨j, hj, rfl⟩ := List.getElem_of_mem hb
      rw [List.length_drop] at hj
      have := s1 (s + j) (by omega) (by omega)
      rw [getD_of _ _ (by omega)] at this
      simp only [List.getElem_drop]
      omega
theorem foldE {l : List Ent} : ∀ {out : List Ent}, Asc out → (∀ e ∈ out, ∀ x ∈ l, e.block ≠ x.block) → (l.map Ent.block).Nodup → Asc (l.foldl insE out) ∧ (l.foldl insE out).Perm (l ++ out) := by
  induction l with
  | nil => intro out h _ _; exact ⟨h, List.Perm.refl _⟩
  | cons x l ih =>
    intro out h hx hn
    simp only [List.map_cons, List.nodup_cons] at hn
    have h1 := insE_asc h fun e he => hx e he x (List.mem_cons_self ..)
    have h2 := insE_perm out x
    obtain ⟨i1, i2⟩ := ih (out := insE out x) h1 (fun e he y hy => by
      have := h2.mem_iff.1 he
      rcases List.mem_cons.1 this with rfl | he
      · exact fun q => hn.1 (q ▸ List.mem_map_of_mem hy)
      · exact hx e he y (List.mem_cons_of_mem _ hy)) hn.2
    refine ⟨i1, i2.trans ?_⟩
    refine (List.Perm.append_left l h2).trans ?_
    exact List.perm_middle
theorem stripe_of {m : List (List Ent)} (h : mapOk m = true) {i : Nat} (hi : i < m.length) {e : Ent} (he : e ∈ m.getD i default) : e.block.tmod m.length = i ∧ entOk e = true := by
  obtain ⟨h1, h2⟩ := mapOk_get h hi
  obtain ⟨k, hk, rfl⟩ := List.getElem_of_mem he
  unfold inStripe at h2
  unfold shardOk at h1
  rw [decide_eq_true_eq] at h1 h2
  have a := h2 k hk
  have b := (h1 k hk).1
  rw [getD_of _ _ hk] at a b
  exact ⟨a, b⟩
theorem shard_asc {l : List Ent} (h : shardOk l = true) : Asc l := by
  unfold shardOk at h
  rw [decide_eq_true_eq] at h
  have key : ∀ d i, i + d + 1 < l.length → (l.getD i default).block < (l.getD (i + d + 1) default).block := by
    intro d
    induction d with
    | zero => intro i hi; exact (h (i + 1) hi).2 (by omega)
    | succ d ih =>
      intro i hi
      have h1 := ih i (by omega)
      have h2 := (h (i + (d + 1) + 1) hi).2 (by omega)
      rw [show i + (d + 1) + 1 - 1 = i + d + 1 by omega] at h2
      omega
  refine List.pairwise_iff_getElem.2 fun i j hi hj hij => ?_
  have := key (j - i - 1) i (by omega)
  rw [show i + (j - i - 1) + 1 = j by omega, getD_of _ _ hi, getD_of _ _ hj] at this
  exact this
theorem flat_nodup {m : List (List Ent)} (h : mapOk m = true) : (m.flatten.map Ent.block).Nodup := by
  rw [List.map_flatten, List.Nodup, List.pairwise_flatten]
  constructor
  · intro l hl
    obtain ⟨x, hx, rfl⟩ := List.mem_map.1 hl
    obtain ⟨i, hi, rfl⟩ := List.getElem_of_mem hx
    have := shard_asc (mapOk_get h hi).1
    rw [getD_of _ _ hi] at this
    exact List.pairwise_map.2 (this.imp fun h => by omega)
  · rw [List.pairwise_map, List.pairwise_iff_getElem]
    intro i j hi hj hij a ha b hb hab
    subst hab
    obtain ⟨e, he, rfl⟩ := List.mem_map.1 ha
    obtain ⟨e', he', h3⟩ := List.mem_map.1 hb
    have h1 := (stripe_of h hi (e := e) (by rw [getD_of _ _ hi]; exact he)).1
    have h2 := (stripe_of h hj (e := e') (by rw [getD_of _ _ hj]; exact he')).1
    rw [h3, h1] at h2
    omega
theorem allM_spec {m : List (List Ent)} (h : mapOk m = true) : Asc (allM m) ∧ (allM m).Perm m.flatten := by
  have := foldE (l := m.flatten) (out := []) List.Pairwise.nil (fun e he => by cases he) (flat_nodup h)
  rw [List.append_nil] at this
  exact this
theorem allM_uniq {m : List (List Ent)} (h : mapOk m = true) {l : List Ent} (hp : l.Perm m.flatten) (hs : l.Pairwise fun a b => ¬ b.block < a.block) : l = allM m := by
  obtain ⟨a1, a2⟩ := allM_spec h
  refine List.Perm.eq_of_pairwise (le := fun a b => ¬ b.block < a.block) (fun a b ha hb h1 h2 => ?_) hs (a1.imp fun h => by omega) (hp.trans a2.symm)
  have hb' := a2.mem_iff.1 hb
  have ha' := hp.mem_iff.1 ha
  have hn := flat_nodup h
  obtain ⟨i, hi, rfl⟩ := List.getElem_of_mem ha'
  obtain ⟨j, hj, rfl⟩ := List.getElem_of_mem hb'
  have hne : i = j := by
    refine Decidable.byContradiction fun hij => ?_
    have hp := List.pairwise_iff_getElem.1 hn
    have hi' : i < (m.flatten.map Ent.block).length := by rw [List.length_map]; exact hi
    have hj' : j < (m.flatten.map Ent.block).length := by rw [List.length_map]; exact hj
    rcases Nat.lt_or_gt_of_ne hij with c | c
    · exact hp i j hi' hj' c (by rw [List.getElem_map, List.getElem_map]; omega)
    · exact hp j i hj' hi' c (by rw [List.getElem_map, List.getElem_map]; omega)
  subst hne
  rfl
theorem allM_mem {m : List (List Ent)} (h : mapOk m = true) (e : Ent) : e ∈ allM m ↔ ∃ i, i < m.length ∧ e ∈ m.getD i default := by
  rw [(allM_spec h).2.mem_iff, List.mem_flatten]
  constructor
  · rintro ⟨l, h1, h2⟩
    obtain ⟨i, hi, rfl⟩ := List.getElem_of_mem h1
    exact ⟨i, hi, by rw [getD_of _ _ hi]; exact h2⟩
  · rintro ⟨i, hi, he⟩
    rw [getD_of _ _ hi] at he
    exact ⟨_, List.getElem_mem hi, he⟩
end Go.Proofs
end

section
open Go Go.Am
namespace Go.Proofs
theorem light_spec (l : List Int) : PSpec Tryz.prog 8 [.c (intsC l)] (.c (.bool (decide (l.length ≤ 300)))) := by
  refine PSpec.rm ?_
  refine CSpec.of_vc hΓ Tryz.func8 rfl 6 0 [.tmp 2] Tryz.ntmps8 rfl (by rw [Tryz.results8]) rfl ?_
  conv => whnf
  repeat' ((first | refine Need.auto ?_ | refine Have.mk (fun _h => ?_)); conv => whnf)
  refine RM.immW rfl ?_; (repeat' (first | exact WA.nil | refine WA.cons rfl ?_ ?_ | exact WB.nil | refine WB.cons ?_ ?_ | exact WT.nil | refine WT.cons ?_ ?_ | exact WH.nil | refine WH.cons ?_ ?_ | exact WR.nil | refine WR.cons rfl ?_ ?_ | refine WO.vr ?_ | exact WO.dead | exact WO.mpS | refine WO.mpA ?_ | exact WO.arrPA (fun i j => plainRow _ _ _) | refine WO.arrA ?_ | exact WS.u | refine WS.c ?_ | refine WS.a ?_ | refine WS.t ?_ | exact WL.nil | refine WL.cons ?_ ?_ | exact WTL.nil | refine WTL.consC ?_ ?_ | refine WTL.consL ?_ ?_ | exact WC.nils | exact WC.nil rfl | exact WC.nilp | refine WC.fzA | exact WC.ptr rfl (Nat.le_of_ble_eq_true rfl) | exact WC.mpr rfl (Nat.le_of_ble_eq_true rfl) | refine WC.slA | refine WC.intA | refine WC.int ?_ | refine WC.boolA | refine WC.bool ?_ | refine WC.strA | refine WC.str ?_ | exact WC.imm rfl))
  exact decide_eq_decide.2 (by omega)
theorem light_body : HasBody Tryz.prog 8 := ⟨⟨Tryz.f8, Tryz.func8, rfl, by kernel_rfl⟩⟩
theorem mod_spec (x n : Int) : PSpec Tryz.prog 42 [.c (.int .i64 x), .c (.int .i64 n)] (.c (.int .i64 (modI x n))) := by
  refine PSpec.rm ?_
  refine CSpec.of_vc hΓ Tryz.func42 rfl 14 0 [.tmp 4] Tryz.ntmps42 rfl (by rw [Tryz.results42]) rfl ?_
  conv => whnf
  repeat' ((first | refine Need.auto ?_ | refine Have.mk (fun _h => ?_)); conv => whnf)
  (first | refine Br.lt (fun h => ?_) (fun h => ?_) | refine Br.le (fun h => ?_) (fun h => ?_) | refine Br.gt (fun h => ?_) (fun h => ?_) | refine Br.ge (fun h => ?_) (fun h => ?_) | refine Br.eq (fun h => ?_) (fun h => ?_) | refine Br.ne (fun h => ?_) (fun h => ?_) | refine Br.not (fun h => ?_) (fun h => ?_) | refine Br.mk (fun h => ?_) (fun h => ?_)) <;> (try simp only [Int.toNat_natCast] at h) <;> (conv => whnf)
  · repeat' ((first | refine Need.auto ?_ | refine Have.mk (fun _h => ?_)); conv => whnf)
    rw [modI_zero (by omega)]
    refine RM.immW rfl ?_; (repeat' (first | exact WA.nil | refine WA.cons rfl ?_ ?_ | exact WB.nil | refine WB.cons ?_ ?_ | exact WT.nil | refine WT.cons ?_ ?_ | exact WH.nil | refine WH.cons ?_ ?_ | exact WR.nil | refine WR.cons rfl ?_ ?_ | refine WO.vr ?_ | exact WO.dead | exact WO.mpS | refine WO.mpA ?_ | exact WO.arrPA (fun i j => plainRow _ _ _) | refine WO.arrA ?_ | exact WS.u | refine WS.c ?_ | refine WS.a ?_ | refine WS.t ?_ | exact WL.nil | refine WL.cons ?_ ?_ | exact WTL.nil | refine WTL.consC ?_ ?_ | refine WTL.consL ?_ ?_ | exact WC.nils | exact WC.nil rfl | exact WC.nilp | refine WC.fzA | exact WC.ptr rfl (Nat.le_of_ble_eq_true rfl) | exact WC.mpr rfl (Nat.le_of_ble_eq_true rfl) | refine WC.slA | refine WC.intA | refine WC.int ?_ | refine WC.boolA | refine WC.bool ?_ | refine WC.strA | refine WC.str ?_ | exact WC.imm rfl))
  · repeat' ((first | refine Need.auto ?_ | refine Have.mk (fun _h => ?_)); conv => whnf)
    rw [show modI x n = (IntKind.i64.wrap (x.tmod n + n)).tmod n from if_neg (by omega)]
    refine RM.immW rfl ?_; (repeat' (first | exact WA.nil | refine WA.cons rfl ?_ ?_ | exact WB.nil | refine WB.cons ?_ ?_ | exact WT.nil | refine WT.cons ?_ ?_ | exact WH.nil | refine WH.cons ?_ ?_ | exact WR.nil | refine WR.cons rfl ?_ ?_ | refine WO.vr ?_ | exact WO.dead | exact WO.mpS | refine WO.mpA ?_ | exact WO.arrPA (fun i j => plainRow _ _ _) | refine WO.arrA ?_ | exact WS.u | refine WS.c ?_ | refine WS.a ?_ | refine WS.t ?_ | exact WL.nil | refine WL.cons ?_ ?_ | exact WTL.nil | refine WTL.consC ?_ ?_ | refine WTL.consL ?_ ?_ | exact WC.nils | exact WC.nil rfl | exact WC.nilp | refine WC.fzA | exact WC.ptr rfl (Nat.le_of_ble_eq_true rfl) | exact WC.mpr rfl (Nat.le_of_ble_eq_true rfl) | refine WC.slA | refine WC.intA | refine WC.int ?_ | refine WC.boolA | refine WC.bool ?_ | refine WC.strA | refine WC.str ?_ | exact WC.imm rfl))
theorem mod_body : HasBody Tryz.prog 42 := ⟨⟨Tryz.f42, Tryz.func42, rfl, by kernel_rfl⟩⟩
theorem roll_spec (l : List Int) (hl : l.length ≤ 10000000) : CSpec Tryz.prog 18 [.c (intsC l)] [] fun s H => s = .c (.ptr 0 0) ∧ H = [.vr (DiceM.cells ⟨l, 0⟩)] := by
  refine CSpec.rm ?_
  refine CSpec.of_vc hΓ Tryz.func18 rfl 8 0 [.tmp 2] Tryz.ntmps18 rfl (by rw [Tryz.results18]) rfl ?_
  conv => whnf
  repeat' ((first | refine Need.auto ?_ | refine Have.mk (fun _h => ?_)); conv => whnf)
  refine ⟨_, _, ?_, rfl, rfl⟩
  refine RM.rg 0 (g' := intsG .i64 l) rfl (fun i _ j _ => rowG_app0 j) rfl ?_
  refine RM.fz 0 rfl (Nat.zero_le _) (fun i _ j _ => rfl) ?_
  refine RM.renW [1] (by decide) ?_ ?_ <;> (repeat' (first | exact WA.nil | refine WA.cons rfl ?_ ?_ | exact WB.nil | refine WB.cons ?_ ?_ | exact WT.nil | refine WT.cons ?_ ?_ | exact WH.nil | refine WH.cons ?_ ?_ | exact WR.nil | refine WR.cons rfl ?_ ?_ | refine WO.vr ?_ | exact WO.dead | exact WO.mpS | refine WO.mpA ?_ | exact WO.arrPA (fun i j => plainRow _ _ _) | refine WO.arrA ?_ | exact WS.u | refine WS.c ?_ | refine WS.a ?_ | refine WS.t ?_ | exact WL.nil | refine WL.cons ?_ ?_ | exact WTL.nil | refine WTL.consC ?_ ?_ | refine WTL.consL ?_ ?_ | exact WC.nils | exact WC.nil rfl | exact WC.nilp | refine WC.fzA | exact WC.ptr rfl (Nat.le_of_ble_eq_true rfl) | exact WC.mpr rfl (Nat.le_of_ble_eq_true rfl) | refine WC.slA | refine WC.intA | refine WC.int ?_ | refine WC.boolA | refine WC.bool ?_ | refine WC.strA | refine WC.str ?_ | exact WC.imm rfl))
theorem roll_body : HasBody Tryz.prog 18 := ⟨⟨Tryz.f18, Tryz.func18, rfl, by kernel_rfl⟩⟩
theorem next_spec (d : DiceM) (hd : d.ok) (n : Int) : CSpec Tryz.prog 38 [.c (.ptr 0 0), .c (.int .i64 n)] [.vr d.cells] fun s H => s = .c (.int .i64 (d.next n)) ∧ H = [.vr d.step.cells] := by
  refine CSpec.rm ?_
  refine CSpec.of_vc hΓ Tryz.func38 rfl 35 1 [.tmp 4] Tryz.ntmps38 rfl (by rw [Tryz.results38]) rfl ?_
  have h1 := hd.le
  have h2 := hd.len
  conv => whnf
  repeat' ((first | refine Need.auto ?_ | refine Have.mk (fun _h => ?_)); conv => whnf)
  refine Dr.mk hΓ hMix (by kernel_rfl) ?_; conv => whnf
  repeat' ((first | refine Need.auto ?_ | refine Have.mk (fun _h => ?_)); conv => whnf)
  (first | refine Br.lt (fun h => ?_) (fun h => ?_) | refine Br.le (fun h => ?_) (fun h => ?_) | refine Br.gt (fun h => ?_) (fun h => ?_) | refine Br.ge (fun h => ?_) (fun h => ?_) | refine Br.eq (fun h => ?_) (fun h => ?_) | refine Br.ne (fun h => ?_) (fun h => ?_) | refine Br.not (fun h => ?_) (fun h => ?_) | refine Br.mk (fun h => ?_) (fun h => ?_)) <;> (try simp only [Int.toNat_natCast] at h) <;> (conv => whnf)
  · repeat' ((first | refine Need.auto ?_ | refine Have.mk (fun _h => ?_)); conv => whnf)
    have h' : d.l.length ≤ d.at_ := by omega
    refine ⟨_, _, ?_, rfl, rfl⟩
    rw [show d.step = d from if_pos h', show d.next n = 0 from if_pos h']
    refine RM.wkW ?_ ?_ (Nat.le_refl _) <;> (repeat' (first | exact WA.nil | refine WA.cons rfl ?_ ?_ | exact WB.nil | refine WB.cons ?_ ?_ | exact WT.nil | refine WT.cons ?_ ?_ | exact WH.nil | refine WH.cons ?_ ?_ | exact WR.nil | refine WR.cons rfl ?_ ?_ | refine WO.vr ?_ | exact WO.dead | exact WO.mpS | refine WO.mpA ?_ | exact WO.arrPA (fun i j => plainRow _ _ _) | refine WO.arrA ?_ | exact WS.u | refine WS.c ?_ | refine WS.a ?_ | refine WS.t ?_ | exact WL.nil | refine WL.cons ?_ ?_ | exact WTL.nil | refine WTL.consC ?_ ?_ | refine WTL.consL ?_ ?_ | exact WC.nils | exact WC.nil rfl | exact WC.nilp | refine WC.fzA | exact WC.ptr rfl (Nat.le_of_ble_eq_true rfl) | exact WC.mpr rfl (Nat.le_of_ble_eq_true rfl) | refine WC.slA | refine WC.intA | refine WC.int ?_ | refine WC.boolA | refine WC.bool ?_ | refine WC.strA | refine WC.str ?_ | exact WC.imm rfl))
  · repeat' ((first | refine Need.auto ?_ | refine Have.mk (fun _h => ?_)); conv => whnf)
    have h' : ¬ d.l.length ≤ d.at_ := by omega
    have w0 := wrap_id (↑d.at_ + 1) (by omega) (by omega)
    have w1 := wrap_id (↑d.at_ + 1 - 1) (by omega) (by omega)
    refine Dr.mk hΓ hMix (by kernel_rfl) ?_; conv => whnf
    repeat' ((first | refine Need.auto ?_ | refine Have.mk (fun _h => ?_)); conv => whnf)
    have e0 : (IntKind.i64.wrap (IntKind.i64.wrap (↑d.at_ + 1) - 1)).toNat = d.at_ := by rw [w0, w1]; omega
    rw [e0]
    refine CallP.auto mod_body (mod_spec (d.l.getD d.at_ 0) n ) ?_
    conv => whnf
    repeat' ((first | refine Need.auto ?_ | refine Have.mk (fun _h => ?_)); conv => whnf)
    refine ⟨_, _, ?_, rfl, rfl⟩
    rw [show d.step = ⟨d.l, d.at_ + 1⟩ from if_neg h', show d.next n = modI (d.l.getD d.at_ 0) n from if_neg h']
    refine RM.wkW ?_ ?_ (Nat.le_refl _) <;> (repeat' (first | exact WA.nil | refine WA.cons rfl ?_ ?_ | exact WB.nil | refine WB.cons ?_ ?_ | exact WT.nil | refine WT.cons ?_ ?_ | exact WH.nil | refine WH.cons ?_ ?_ | exact WR.nil | refine WR.cons rfl ?_ ?_ | refine WO.vr ?_ | exact WO.dead | exact WO.mpS | refine WO.mpA ?_ | exact WO.arrPA (fun i j => plainRow _ _ _) | refine WO.arrA ?_ | exact WS.u | refine WS.c ?_ | refine WS.a ?_ | refine WS.t ?_ | exact WL.nil | refine WL.cons ?_ ?_ | exact WTL.nil | refine WTL.consC ?_ ?_ | refine WTL.consL ?_ ?_ | exact WC.nils | exact WC.nil rfl | exact WC.nilp | refine WC.fzA | exact WC.ptr rfl (Nat.le_of_ble_eq_true rfl) | exact WC.mpr rfl (Nat.le_of_ble_eq_true rfl) | refine WC.slA | refine WC.intA | refine WC.int ?_ | refine WC.boolA | refine WC.bool ?_ | refine WC.strA | refine WC.str ?_ | exact WC.imm rfl))
theorem next_body : HasBody Tryz.prog 38 := ⟨⟨Tryz.f38, Tryz.func38, rfl, by kernel_rfl⟩⟩
end Go.Proofs
end
