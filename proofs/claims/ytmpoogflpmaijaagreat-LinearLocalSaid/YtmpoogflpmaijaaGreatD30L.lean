/- Part of the proofs of laws of this seat: contracts and plain lemmas; no condition is added to a statement. -/
import Derived.Test.YtmpoogflpmaijaaGreatLinKL
set_option linter.unusedSimpArgs false
set_option linter.unusedVariables false
open Go Go.Am
namespace Go.Proofs
/-! ### from a linearization of the whole to those of the blocks -/
theorem snoc_cases {α : Type} : ∀ (xs : List α), xs = [] ∨ ∃ ys x, xs = ys ++ [x]
  | [] => .inl rfl
  | x :: r => by
    rcases snoc_cases r with rfl | ⟨ys, y, rfl⟩
    · exact .inr ⟨[], x, rfl⟩
    · exact .inr ⟨x :: ys, y, rfl⟩
/-- A list of operations that obeys a history of one block is what a search can find. -/
theorem lin_path {l : List Evt} (hR : RightO l) {v : ByteArray} : ∀ (n : Nat) (xs : List Evt), xs.length = n → (∀ x ∈ xs, x ∈ operationsM l ∧ canE x = true) → (xs.map Evt.serial).Nodup → xs.Pairwise (fun a b => beforeM l b.serial a.serial = false) →
    (∀ x ∈ xs, ∀ y ∈ operationsM l, mustE y = true → beforeM l y.serial x.serial = true → y ∈ xs) → runOk [v] xs = true → ∃ w, runB [v] xs = [w] ∧ Path l v (xs.map Evt.serial) w
  | 0, xs, hn, _, _, _, _, _ => by
    have : xs = [] := List.length_eq_zero_iff.1 hn
    subst this
    exact ⟨v, rfl, .nil⟩
  | n + 1, xs, hn, hm, hd, ho, hc, hr => by
    rcases snoc_cases xs with rfl | ⟨ys, x, rfl⟩
    · simp at hn
    rw [List.map_append, List.nodup_append] at hd
    rw [List.pairwise_append] at ho
    rw [runOk_snoc, Bool.and_eq_true] at hr
    have hxm := hm x (by simp)
    have hnot : x.serial ∉ ys.map Evt.serial := fun q => hd.2.2 _ q _ (by simp) rfl
    obtain ⟨w, h1, h2⟩ := lin_path hR n ys (by simpa using hn) (fun y hy => hm y (by simp [hy])) hd.1 ho.1 (fun y hy z hz hzm hb => by
      have := hc y (by simp [hy]) z hz hzm hb
      rcases List.mem_append.1 this with q | q
      · exact q
      · simp at q; subst q
        have := ho.2.2 y hy z (by simp)
        rw [this] at hb; cases hb) hr.1
    have hstep := hr.2
    rw [h1] at hstep
    refine ⟨nextV w x, ?_, ?_⟩
    · rw [runB_snoc, h1, stepB_one]
    · rw [List.map_append]
      refine .snoc h2 hxm.1 hxm.2 hnot (fun y hy hym hb => ?_) hstep
      have := hc x (by simp) y hy hym hb
      rcases List.mem_append.1 this with q | q
      · exact List.mem_map_of_mem q
      · simp at q; subst q
        rw [before_self hR] at hb; cases hb
theorem run_part : ∀ {ws : List Evt} {bs : List ByteArray}, (∀ x ∈ ws, ∃ c : Nat, c < bs.length ∧ inB c x = true) → runOk bs ws = true → ∀ b : Nat, b < bs.length → runOk [bs.getD b ByteArray.empty] (partE b ws) = true
  | [], _, _, _, _, _ => rfl
  | x :: r, bs, hx, hr, b, hb => by
    rw [runOk, Bool.and_eq_true] at hr
    obtain ⟨c, hc, hi⟩ := hx x (by simp)
    obtain ⟨s1, s2⟩ := step_block hc hi
    have hlen : (stepB bs x).length = bs.length := appB_len _ _ _ _
    have ih := run_part (fun y hy => by rw [hlen]; exact hx y (by simp [hy])) hr.2 b (by rw [hlen]; exact hb)
    unfold partE
    by_cases e : b = c
    · subst e
      rw [List.filter_cons_of_pos hi, List.map_cons, runOk, Bool.and_eq_true]
      refine ⟨by rw [← s1]; exact hr.1, ?_⟩
      rw [stepB_one]
      rw [s2] at ih
      have : (bs.set b (nextV (bs.getD b ByteArray.empty) (zeroE x))).getD b ByteArray.empty = nextV (bs.getD b ByteArray.empty) (zeroE x) := by simp [List.getD, hb]
      rw [this] at ih
      exact ih
    · rw [List.filter_cons_of_neg (fun q => e (by have := inB_one q hi; omega))]
      rw [s2] at ih
      have : (bs.set c (nextV (bs.getD c ByteArray.empty) (zeroE x))).getD b ByteArray.empty = bs.getD b ByteArray.empty := by
        simp only [List.getD]
        rw [List.getElem?_set_ne (by omega)]
      rw [this] at ih
      exact ih
theorem right_sizes {bs : List ByteArray} {l : List Evt} (hR : RightO l) (h1 : 1 ≤ bs.length) (h2 : bs.length ≤ 128) (h3 : l.length ≤ 400) (h4 : ∀ b ∈ bs, b.size = 16) : sizesM bs l = 0 := by
  have hc : checkM (bs.length : Int) l = 0 := by
    unfold checkM
    rw [if_neg (by omega), if_neg (by omega), if_pos hR.i.to]
  unfold sizesM
  rw [if_pos hc, if_pos]
  rw [List.all_eq_true]
  exact fun b hb => decide_eq_true (h4 b hb)
theorem alone_len (l : List Evt) (b : Int) : (aloneM l b).length ≤ l.length := by
  unfold aloneM restrictM
  rw [List.length_map]
  exact List.length_filter_le _ _
theorem alone_single {l : List Evt} (hR : RightO l) (hl : l.length ≤ 400) {b : Int} {v : ByteArray} (hv : v.size = 16) (hf : (operationsM (aloneM l b)).length ≤ 20) : singleM v (aloneM l b) = true := by
  unfold singleM
  have hz : sizesM [v] (aloneM l b) = 0 := right_sizes (alone_right hR b) (by simp) (by simp) (Nat.le_trans (alone_len l b) hl) (fun x hx => by simp at hx; subst hx; exact hv)
  rw [hz, decide_eq_true hf, decide_eq_true rfl, Bool.true_and, Bool.and_true, allK_iff]
  intro i hi
  have := idx_mem hi
  unfold aloneM restrictM at this
  obtain ⟨e, he, heq⟩ := List.mem_map.1 this
  have hib := inB_spec.1 (List.mem_filter.1 he).2
  unfold aloneM restrictM
  rw [← heq]
  unfold evAlone
  rw [decide_eq_true (show (zeroE e).block = 0 from rfl), decide_eq_true (show 1 ≤ (zeroE e).kind ∧ (zeroE e).kind ≤ 3 from hib.2)]; rfl
theorem lin_found {bs : List ByteArray} {l : List Evt} {ws : List Evt} (hR : RightO l) (hl : l.length ≤ 400) (hsz : ∀ b ∈ bs, b.size = 16) (h : LinO bs l ws) (hin : ∀ x ∈ ws, ∃ c : Nat, c < bs.length ∧ inB c x = true) {b : Nat} (hb : b < bs.length) (hf : (operationsM (aloneM l b)).length ≤ 20) : foundM bs l b = true := by
  have hv : (bs.getD b ByteArray.empty).size = 16 := by
    have : bs.getD b ByteArray.empty = bs[b] := by simp [List.getD, hb]
    rw [this]; exact hsz _ (List.getElem_mem hb)
  have hm : ∀ x ∈ partE b ws, ∃ y ∈ ws, inB b y = true ∧ x = zeroE y := fun x hx => by
    unfold partE at hx
    obtain ⟨y, h1, rfl⟩ := List.mem_map.1 hx
    obtain ⟨h2, h3⟩ := List.mem_filter.1 h1
    exact ⟨y, h2, h3, rfl⟩
  have hser : (partE b ws).map Evt.serial = (ws.filter (inB b)).map Evt.serial := by
    unfold partE
    rw [List.map_map]
    rfl
  obtain ⟨w, -, hp⟩ := lin_path (alone_right hR b) (v := bs.getD b ByteArray.empty) _ (partE b ws) rfl (fun x hx => by
      obtain ⟨y, h1, h2, rfl⟩ := hm x hx
      obtain ⟨m1, m2⟩ := h.mem y h1
      exact ⟨(mem_alone hR).2 ⟨y, m1, h2, rfl⟩, m2⟩) (by rw [hser]; exact h.nodup.sublist (List.filter_sublist.map _)) (by
      unfold partE
      rw [List.pairwise_map]
      refine (h.ord.sublist List.filter_sublist).imp_of_mem fun {x y} hx hy hxy => ?_
      obtain ⟨x1, x2⟩ := List.mem_filter.1 hx
      obtain ⟨y1, y2⟩ := List.mem_filter.1 hy
      have := before_alone hR (h.mem y y1).1 (h.mem x x1).1 y2 x2
      exact this.trans hxy) (fun x hx y hy hym _ => by
      obtain ⟨z, z1, z2, rfl⟩ := (mem_alone hR).1 hy
      unfold partE
      exact List.mem_map_of_mem (List.mem_filter.2 ⟨h.all z z1 hym, z2⟩)) (run_part hin h.run b hb)
  unfold foundM
  refine blockM_iff.2 ⟨alone_single hR hl hv hf, _, w, hp, fun y hy hym => ?_⟩
  obtain ⟨z, z1, z2, rfl⟩ := (mem_alone hR).1 hy
  unfold partE
  exact List.mem_map_of_mem (List.mem_map_of_mem (List.mem_filter.2 ⟨h.all z z1 hym, z2⟩))
/-! ### parts and beginnings of right histories -/
theorem right_filter {l : List Evt} (h : RightO l) (b : Int) : RightO (restrictM l b) := by
  unfold restrictM
  refine ⟨fun x y hxy h1 h2 => h.inv x y (ord_filter.1 hxy).2.2 h1 h2, fun x y hxy h1 h2 => h.rets x y (ord_filter.1 hxy).2.2 h1 h2, fun r hr h1 => ?_, fun e he h1 => h.plain e (List.mem_filter.1 he).1 h1, fun e he => h.range e (List.mem_filter.1 he).1⟩
  obtain ⟨h4, h5⟩ := List.mem_filter.1 hr
  obtain ⟨e, q1, q2, q3, q4, q5, q6, q7, q8⟩ := h.open_ r h4 h1
  have : inB b e = true := by rw [← h5]; unfold inB; rw [q5, q6]
  exact ⟨e, ord_filter.2 ⟨this, h5, q1⟩, q2, q3, q4, q5, q6, q7, q8⟩
theorem ord_take {α : Type} : ∀ {l : List α} {k : Nat} {a b : α}, Ord (l.take k) a b → Ord l a b
  | [], k, a, b, h => by simp [Ord] at h
  | x :: l, 0, a, b, h => by simp [Ord] at h
  | x :: l, k + 1, a, b, h => by
    rw [List.take_succ_cons] at h
    rcases h with ⟨h1, h2⟩ | h
    · exact .inl ⟨h1, List.mem_of_mem_take h2⟩
    · exact .inr (ord_take h)
theorem ord_take_to {α : Type} : ∀ {l : List α} {k : Nat} {a b : α}, Ord l a b → b ∈ l.take k → (∀ c, Ord l b c → c ≠ b) → Ord (l.take k) a b
  | [], k, a, b, h, _, _ => h.elim
  | x :: l, 0, a, b, _, hb, _ => by simp at hb
  | x :: l, k + 1, a, b, h, hb, hu => by
    rw [List.take_succ_cons] at hb ⊢
    rcases h with ⟨h1, h2⟩ | h
    · refine .inl ⟨h1, ?_⟩
      rcases List.mem_cons.1 hb with q | q
      · exact absurd rfl (hu b (.inl ⟨q.symm, h2⟩))
      · exact q
    · refine .inr (ord_take_to h ?_ fun c hc => hu c (.inr hc))
      rcases List.mem_cons.1 hb with q | q
      · exact absurd rfl (hu b (.inl ⟨q.symm, (ord_mem h).2⟩))
      · exact q
theorem right_take {l : List Evt} (h : RightO l) (k : Nat) : RightO (l.take k) := by
  refine ⟨fun x y hxy h1 h2 => h.inv x y (ord_take hxy) h1 h2, fun x y hxy h1 h2 => h.rets x y (ord_take hxy) h1 h2, fun r hr h1 => ?_, fun e he h1 => h.plain e (List.mem_of_mem_take he) h1, fun e he => h.range e (List.mem_of_mem_take he)⟩
  obtain ⟨e, q1, q2⟩ := h.open_ r (List.mem_of_mem_take hr) h1
  exact ⟨e, ord_take_to q1 hr fun c hc q => by subst q; exact h.rets _ _ hc h1 h1 rfl, q2⟩
theorem filter_take {α : Type} (p : α → Bool) (l : List α) (k : Nat) : ∃ k', (l.take k).filter p = (l.filter p).take k' := by
  refine ⟨((l.take k).filter p).length, ?_⟩
  have : l.filter p = (l.take k).filter p ++ (l.drop k).filter p := by rw [← List.filter_append, List.take_append_drop]
  rw [this, List.take_left]
theorem alone_take (l : List Evt) (k : Nat) (b : Int) : ∃ k', aloneM (l.take k) b = (aloneM l b).take k' := by
  obtain ⟨k', h⟩ := filter_take (inB b) l k
  refine ⟨k', ?_⟩
  unfold aloneM restrictM
  rw [h, List.map_take]
theorem restrict_self (l : List Evt) (b : Int) : restrictM (restrictM l b) b = restrictM l b := by
  unfold restrictM
  rw [List.filter_filter]
  refine List.filter_congr fun x _ => by simp
theorem restrict_other (l : List Evt) {b c : Int} (h : b ≠ c) : restrictM (restrictM l b) c = [] := by
  unfold restrictM
  rw [List.filter_filter, List.filter_eq_nil_iff]
  intro x _
  rw [Bool.and_eq_true]
  rintro ⟨h1, h2⟩
  exact h (inB_one h2 h1)
/-! ### a beginning of a history of one block -/
def pendE (x : Evt) : Evt := { x with ret := false, err := 0, rdata := ByteArray.empty }
theorem runOk_map {f : Evt → Evt} (hf : ∀ x, (f x).kind = x.kind ∧ (f x).block = x.block ∧ (f x).data = x.data ∧ (f x = x ∨ (f x).ret = false)) : ∀ {xs : List Evt} {bs : List ByteArray}, runOk bs xs = true → runOk bs (xs.map f) = true
  | [], _, _ => rfl
  | x :: r, bs, h => by
    rw [runOk, Bool.and_eq_true] at h
    obtain ⟨f1, f2, f3, f4⟩ := hf x
    rw [List.map_cons, runOk, Bool.and_eq_true]
    have e : stepB bs (f x) = stepB bs x := by unfold stepB; rw [f1, f2, f3]
    refine ⟨?_, by rw [e]; exact runOk_map hf h.2⟩
    rcases f4 with q | q
    · rw [q]; exact h.1
    · unfold stepOk; rw [q]; rfl
theorem runOk_take : ∀ {xs : List Evt} {bs : List ByteArray} (k : Nat), runOk bs xs = true → runOk bs (xs.take k) = true
  | [], _, _, _ => by simp [runOk]
  | x :: r, bs, 0, _ => rfl
  | x :: r, bs, k + 1, h => by
    rw [runOk, Bool.and_eq_true] at h
    rw [List.take_succ_cons, runOk, Bool.and_eq_true]
    exact ⟨h.1, runOk_take k h.2⟩
theorem ord_of_mem_drop {α : Type} : ∀ {l : List α} {k : Nat} {a b : α}, a ∈ l.take k → b ∈ l.drop k → Ord l a b
  | [], k, a, b, h, _ => by simp at h
  | x :: l, 0, a, b, h, _ => by simp at h
  | x :: l, k + 1, a, b, h, hb => by
    rw [List.take_succ_cons] at h
    rw [List.drop_succ_cons] at hb
    rcases List.mem_cons.1 h with q | q
    · exact .inl ⟨q.symm, List.mem_of_mem_drop hb⟩
    · exact .inr (ord_of_mem_drop q hb)
open Classical in
theorem prefix_lin {A : List Evt} (hR : RightO A) {v : ByteArray} (m : Nat) (h : HasLin A v) : HasLin (A.take m) v := by
  obtain ⟨o, w, hp, hd⟩ := h
  obtain ⟨xs, rfl, hm, nd, ho, -, hr, -⟩ := path_events hp
  have hn := operations_nodup A
  have hRP := right_take hR m
  -- what the beginning asks for
  have must_in : ∀ y ∈ operationsM (A.take m), mustE y = true → y ∈ A.take m ∧ y.ret = true ∧ y ∈ xs := fun y hy hym => by
    have hret : y.ret = true := by unfold mustE at hym; rw [Bool.and_eq_true] at hym; exact hym.1
    obtain ⟨y1, -⟩ := (mem_ops hRP).1 hy
    have hyA : y ∈ operationsM A := (mem_ops hR).2 ⟨List.mem_of_mem_take y1, fun q => by rw [hret] at q; cases q⟩
    obtain ⟨x, hx, hxs⟩ := List.mem_map.1 (hd y hyA hym)
    have := serial_inj hn (hm x hx).1 hyA hxs
    subst this
    exact ⟨y1, hret, hx⟩
  obtain ⟨q, hq, hmin⟩ := min_ex (fun q => ∀ y ∈ operationsM (A.take m), mustE y = true → y ∈ xs.take q) id xs.length xs.length (Nat.le_refl _) (fun y hy hym => by rw [List.take_length]; exact (must_in y hy hym).2.2)
  have hin : ∀ x ∈ xs.take q, ∃ e ∈ A.take m, e.ret = false ∧ e.serial = x.serial := by
    match q, hq, hmin with
    | 0, _, _ => intro x hx; simp at hx
    | q + 1, hq, hmin =>
      obtain ⟨y, hy, hym, hyn⟩ : ∃ y ∈ operationsM (A.take m), mustE y = true ∧ y ∉ xs.take q := by
        refine Classical.byContradiction fun hc => ?_
        have := hmin q fun y hy hym => Classical.byContradiction fun hyn => hc ⟨y, hy, hym, hyn⟩
        simp only [id] at this; omega
      obtain ⟨y1, y2, y3⟩ := must_in y hy hym
      have hyq := hq y hy hym
      intro x hx
      by_cases hqx : q < xs.length
      case neg => rw [List.take_of_length_le (by omega)] at hyn; exact absurd y3 hyn
      rw [getD_snoc_take hqx] at hyq hx
      have hye : y = xs.getD q default := by
        rcases List.mem_append.1 hyq with c | c
        · exact absurd c hyn
        · simpa using c
      rcases List.mem_append.1 hx with hx | hx
      · -- an earlier one was begun before the later one was answered
        have hxA := (hm x (List.mem_of_mem_take hx)).1
        obtain ⟨x1, -⟩ := (mem_ops hR).1 hxA
        obtain ⟨e, e1, e2, e3⟩ : ∃ e ∈ A, e.ret = false ∧ e.serial = x.serial := by
          cases c : x.ret with
          | true =>
            obtain ⟨e, q1, q2, q3, -⟩ := hR.open_ x x1 c
            exact ⟨e, (ord_mem q1).1, q2, q3⟩
          | false => exact ⟨x, x1, c, rfl⟩
        have he : e ∈ A.take m ∨ e ∈ A.drop m := by rw [← List.mem_append, List.take_append_drop]; exact e1
        rcases he with he | he
        · exact ⟨e, he, e2, e3⟩
        · exfalso
          have hb : beforeM A y.serial x.serial = true := (before_iff hR).2 ⟨y, e, ord_of_mem_drop y1 he, y2, rfl, e2, e3⟩
          have hpw := (ho.sublist (List.take_sublist (q + 1) xs))
          rw [getD_snoc_take hqx, List.pairwise_append] at hpw
          have := hpw.2.2 x hx (xs.getD q default) (by simp)
          rw [← hye, hb] at this; cases this
      · simp only [List.mem_singleton] at hx
        rw [hx, ← hye]
        obtain ⟨e, q1, q2, q3, -⟩ := hRP.open_ y y1 y2
        exact ⟨e, (ord_mem q1).1, q2, q3⟩
  -- the operations of the beginning
  let f : Evt → Evt := fun x => if ∃ r ∈ A.take m, r.ret = true ∧ r.serial = x.serial then x else pendE x
  have hf : ∀ x, (f x).kind = x.kind ∧ (f x).block = x.block ∧ (f x).data = x.data ∧ (f x = x ∨ (f x).ret = false) := fun x => by
    show (ite _ _ _ : Evt).kind = _ ∧ (ite _ _ _ : Evt).block = _ ∧ (ite _ _ _ : Evt).data = _ ∧ ((ite _ _ _ : Evt) = x ∨ (ite _ _ _ : Evt).ret = false)
    split
    · exact ⟨rfl, rfl, rfl, .inl rfl⟩
    · exact ⟨rfl, rfl, rfl, .inr rfl⟩
  have hfs : ∀ x, (f x).serial = x.serial := fun x => by
    show (ite _ _ _ : Evt).serial = _
    split <;> rfl
  have hser : ((xs.take q).map f).map Evt.serial = (xs.take q).map Evt.serial := by
    rw [List.map_map]
    exact List.map_congr_left fun x _ => hfs x
  have hfm : ∀ x ∈ xs.take q, f x ∈ operationsM (A.take m) ∧ canE (f x) = true := fun x hx => by
    obtain ⟨m1, m2⟩ := hm x (List.mem_of_mem_take hx)
    obtain ⟨e, e1, e2, e3⟩ := hin x hx
    show (ite _ _ _ : Evt) ∈ _ ∧ canE (ite _ _ _ : Evt) = true
    split
    · rename_i c
      obtain ⟨r, r1, r2, r3⟩ := c
      have := ops_ret_eq hR m1 (List.mem_of_mem_take r1) r2 r3
      subst this
      exact ⟨(mem_ops hRP).2 ⟨r1, fun q => by rw [r2] at q; cases q⟩, m2⟩
    · rename_i c
      have hpe : pendE x = e := by
        obtain ⟨p1, p2⟩ := hR.plain e (List.mem_of_mem_take e1) e2
        obtain ⟨x1, -⟩ := (mem_ops hR).1 m1
        cases cr : x.ret with
        | true =>
          obtain ⟨e', q1, q2, q3, q4, q5, q6, q7, -⟩ := hR.open_ x x1 cr
          have := inv_unique hR (ord_mem q1).1 (List.mem_of_mem_take e1) q2 e2 (q3.trans e3.symm)
          subst this
          unfold pendE
          cases x; cases e'
          simp only at *
          subst q2 q3 q4 q5 q6 q7 p1 p2
          rfl
        | false =>
          have := inv_unique hR x1 (List.mem_of_mem_take e1) cr e2 e3.symm
          subst this
          unfold pendE
          cases x
          simp only at *
          subst p1 p2 cr
          rfl
      rw [hpe]
      refine ⟨(mem_ops hRP).2 ⟨e1, fun _ r hr hrr hs => c ⟨r, hr, hrr, hs.trans e3⟩⟩, ?_⟩
      unfold canE; rw [e2]; rfl
  have hin2 : ∀ y ∈ operationsM (A.take m), mustE y = true → y ∈ (xs.take q).map f := fun y hy hym => by
    obtain ⟨y1, y2, -⟩ := must_in y hy hym
    refine List.mem_map.2 ⟨y, hq y hy hym, ?_⟩
    show (ite _ _ _ : Evt) = y
    rw [if_pos ⟨y, y1, y2, rfl⟩]
  obtain ⟨w', -, hp'⟩ := lin_path hRP (v := v) _ ((xs.take q).map f) rfl (fun x hx => by
      obtain ⟨y, h1, rfl⟩ := List.mem_map.1 hx
      exact hfm y h1) (by rw [hser]; exact nd.sublist ((List.take_sublist q xs).map _)) (by
      rw [List.pairwise_map]
      refine (ho.sublist (List.take_sublist q xs)).imp fun {a b} hab => ?_
      rw [hfs, hfs, ← Bool.not_eq_true]
      intro hb
      obtain ⟨r, e, h1, h2⟩ := (before_iff hRP).1 hb
      have := (before_iff hR).2 ⟨r, e, ord_take h1, h2⟩
      rw [this] at hab; cases hab) (fun x _ y hy hym _ => hin2 y hy hym) (runOk_map hf (runOk_take q hr))
  exact ⟨_, w', hp', fun y hy hym => List.mem_map_of_mem (hin2 y hy hym)⟩
end Go.Proofs
