/- Part of the proofs of laws of this seat: contracts and plain lemmas; no condition is added to a statement. -/
import Derived.Test.YtmpoogflpmaijaaGreatD31L
set_option linter.unusedSimpArgs false
set_option linter.unusedVariables false
open Go Go.Am
namespace Go.Proofs
set_option maxRecDepth 20000
set_option linter.all false
/-! ### drawn events without a wrong result have a linearization -/
structure Done (n : Nat) (s : EvS) (xs : List Evt) : Prop where
  ser : xs.map Evt.serial = s.ap
  nd : s.ap.Nodup
  run : runOk (zerosM n) xs = true
  val : runB (zerosM n) xs = s.b
  ok : ∀ x ∈ xs, x.ret = true ∧ x.err = 0 ∧ pendE x ∈ s.out
  opn : ∀ x ∈ xs, ∀ e ∈ s.opn, e.serial = x.serial → e = { x with ret := false }
  rets : ∀ r ∈ s.out, r.ret = true → r ∈ xs
  ord : s.ap.Pairwise fun a b => beforeM s.out b a = false
theorem ap_mem {n : Nat} {s : EvS} {xs : List Evt} (h : Done n s xs) {a : Int} (ha : a ∈ s.ap) : ∃ x ∈ xs, x.serial = a := by
  rw [← h.ser] at ha
  obtain ⟨x, h1, h2⟩ := List.mem_map.1 ha
  exact ⟨x, h1, h2⟩
theorem xs_inj {n : Nat} {s : EvS} {xs : List Evt} (h : Done n s xs) {x y : Evt} (hx : x ∈ xs) (hy : y ∈ xs) (e : x.serial = y.serial) : x = y :=
  serial_inj (by rw [h.ser]; exact h.nd) hx hy e
section
variable {n i : Nat} {s : EvS} {xs : List Evt} (g : Gen n s i) (h : Done n s xs)
include g h
theorem Done.stepA {k : Nat} (hk : k < s.opn.length) (ha : (s.opn.getD k default).serial ∈ s.ap) (d : DiceM) : Done n (evA s d k false) xs := by
  have hright := g.retOk (wrong := false) hk ha d
  have hmem : ∀ x ∈ s.opn.take k ++ s.opn.drop (k + 1), x ∈ s.opn ∧ x.serial ≠ (s.opn.getD k default).serial := fun x hx => mem_cut_other g.opnD hk hx
  have he : s.opn.getD k default ∈ s.opn := idx_mem hk
  have hx : (evX d false (s.opn.getD k default)).1 = { s.opn.getD k default with ret := true } := rfl
  unfold evA
  rw [hx] at hright ⊢
  generalize s.opn.getD k default = e at *
  obtain ⟨x, x1, x2⟩ := ap_mem h ha
  have hex := h.opn x x1 e he x2.symm
  have hr : ({ e with ret := true } : Evt) = x := by
    rw [hex]
    have := (h.ok x x1).1
    cases x; simp only at this; subst this; rfl
  rw [hr] at hright ⊢
  refine ⟨h.ser, h.nd, h.run, h.val, fun y hy => ⟨(h.ok y hy).1, (h.ok y hy).2.1, List.mem_append.2 (.inl (h.ok y hy).2.2)⟩, fun y hy e' q => h.opn y hy e' (hmem e' q).1, fun r q hrr => ?_, ?_⟩
  · rcases List.mem_append.1 q with q | q
    · exact h.rets r q hrr
    · simp at q; subst q; exact x1
  · refine h.ord.imp fun {a b} hab => before_snoc_false g.hR hright (fun q => ?_) hab
    rw [(h.ok x x1).1] at q; cases q
theorem Done.stepP {k : Nat} (hk : k < s.opn.length) (ha : (s.opn.getD k default).serial ∉ s.ap) (d : DiceM) : Done n (evP s d k) (xs ++ [{ evD s.b (s.opn.getD k default) with ret := true }]) := by
  have he : s.opn.getD k default ∈ s.opn := idx_mem hk
  have hmem : ∀ x ∈ s.opn.set k (evD s.b (s.opn.getD k default)), x = evD s.b (s.opn.getD k default) ∨ (x ∈ s.opn ∧ x.serial ≠ (s.opn.getD k default).serial) := fun x hx => mem_set_other g.opnD hk hx
  have hcm := g.cmdP _ he
  have hcv : cmdV (s.b.length : Int) (s.opn.getD k default).kind (s.opn.getD k default).block (s.opn.getD k default).data = 0 := by rw [g.bl]; exact hcm.2
  unfold evP
  generalize s.opn.getD k default = e at *
  obtain ⟨o1, o2⟩ := g.opnInv e he
  refine ⟨by rw [List.map_append, h.ser]; rfl, ?_, ?_, ?_, fun y hy => ?_, fun y hy e' q hq => ?_, fun r q hrr => List.mem_append.2 (.inl (h.rets r q hrr)), ?_⟩
  · show (s.ap ++ [e.serial]).Nodup
    rw [List.nodup_append]
    refine ⟨h.nd, by simp, fun a h1 b h2 => ?_⟩
    simp at h2; subst h2
    exact fun q => ha (q ▸ h1)
  · rw [runOk_snoc, h.run, h.val, Bool.true_and]
    unfold stepOk evD
    simp
  · rw [runB_snoc, h.val]
    rfl
  · rcases List.mem_append.1 hy with q | q
    · exact h.ok y q
    · simp only [List.mem_singleton] at q
      subst q
      exact ⟨rfl, hcv, o2⟩
  · rcases List.mem_append.1 hy with c | c
    · rcases hmem e' q with rfl | ⟨q1, -⟩
      · exfalso
        apply ha
        rw [← h.ser]
        have : e.serial = y.serial := hq
        rw [this]
        exact List.mem_map_of_mem c
      · exact h.opn y c e' q1 hq
    · simp only [List.mem_singleton] at c
      subst c
      rcases hmem e' q with rfl | ⟨q1, q2⟩
      · unfold evD
        cases e; simp only at o1; subst o1; rfl
      · exact absurd hq q2
  · show (s.ap ++ [e.serial]).Pairwise _
    rw [List.pairwise_append]
    refine ⟨h.ord, by simp, fun a h1 b h2 => ?_⟩
    simp at h2; subst h2
    rw [← Bool.not_eq_true]
    intro hb
    obtain ⟨r, e', r1, r2, r3, -⟩ := (before_iff g.hR).1 hb
    exact g.opnNo e he r (ord_mem r1).1 r2 r3
theorem Done.stepB (hn : 1 ≤ n ∧ n ≤ 1000) (d : DiceM) : Done n (evB s d n i) xs := by
  have hright := g.invOk hn d
  have hsr : (evN d n i).serial = (i : Int) := rfl
  have hrt : (evN d n i).ret = false := rfl
  unfold evB
  generalize evN d n i = e at *
  refine ⟨h.ser, h.nd, h.run, h.val, fun y hy => ⟨(h.ok y hy).1, (h.ok y hy).2.1, List.mem_append.2 (.inl (h.ok y hy).2.2)⟩, fun y hy e' q hq => ?_, fun r q hrr => ?_, ?_⟩
  · rcases List.mem_append.1 q with q | q
    · exact h.opn y hy e' q hq
    · simp at q; subst q
      have : (pendE y).serial < i := g.ser _ (h.ok y hy).2.2
      have e2 : (pendE y).serial = y.serial := rfl
      omega
  · rcases List.mem_append.1 q with q | q
    · exact h.rets r q hrr
    · simp at q; subst q; rw [hrt] at hrr; cases hrr
  · refine h.ord.imp_of_mem fun {a b} h1 _ hab => before_snoc_false g.hR hright (fun _ q => ?_) hab
    have := g.apS a h1
    omega
theorem Done.mono (d : DiceM) : Done n ⟨d, s.out, s.opn, s.ap, s.b⟩ xs := ⟨h.ser, h.nd, h.run, h.val, h.ok, h.opn, h.rets, h.ord⟩
end
theorem done_step {n m i : Nat} {s : EvS} (hn : 1 ≤ n ∧ n ≤ 1000) (ho : s.opn.length ≤ 5) (g : Gen n s i) (h : ∃ xs, Done n s xs) : ∃ xs, Done n (evStep n m false i s) xs := by
  obtain ⟨xs, h⟩ := h
  unfold evStep
  split
  · rename_i c
    exact ⟨_, h.stepA g (evK0_lt c.2.1 ho) c.2.2 _⟩
  · split
    · rename_i c
      exact ⟨_, h.stepP g (evK0_lt c.2.1 ho) c.2.2 _⟩
    · split
      · exact ⟨_, h.stepB g hn _⟩
      · exact ⟨_, h.mono g _⟩
theorem done_all {n m : Nat} {l : List Int} (hn : 1 ≤ n ∧ n ≤ 1000) : ∀ i, ∃ xs, Done n (evI n m false l i) xs
  | 0 => ⟨[], rfl, List.nodup_nil, rfl, rfl, fun x hx => by simp at hx, fun x hx => by simp at hx, fun r hr => by simp [evI] at hr, List.Pairwise.nil⟩
  | i + 1 => by
    rw [evI]
    split
    · exact done_step hn (evI_len (n := n) i).opn (gen_all hn i) (done_all hn i)
    · obtain ⟨xs, h⟩ := done_all (m := m) (l := l) hn i
      exact ⟨xs, h⟩
open Classical in
theorem drawn_lin {n i : Nat} {s : EvS} {xs : List Evt} (g : Gen n s i) (h : Done n s xs) : ∃ ys, LinO (zerosM n) s.out ys ∧ ∀ y ∈ ys, ∃ c : Nat, c < n ∧ inB c y = true := by
  let f : Evt → Evt := fun x => if x ∈ s.out then x else pendE x
  have hf : ∀ x, (f x).kind = x.kind ∧ (f x).block = x.block ∧ (f x).data = x.data ∧ (f x = x ∨ (f x).ret = false) := fun x => by
    show (ite _ _ _ : Evt).kind = _ ∧ (ite _ _ _ : Evt).block = _ ∧ (ite _ _ _ : Evt).data = _ ∧ ((ite _ _ _ : Evt) = x ∨ (ite _ _ _ : Evt).ret = false)
    split
    · exact ⟨rfl, rfl, rfl, .inl rfl⟩
    · exact ⟨rfl, rfl, rfl, .inr rfl⟩
  have hfs : ∀ x, (f x).serial = x.serial := fun x => by
    show (ite _ _ _ : Evt).serial = _
    split <;> rfl
  have hser : (xs.map f).map Evt.serial = s.ap := by
    rw [List.map_map, ← h.ser]
    exact List.map_congr_left fun x _ => hfs x
  refine ⟨xs.map f, ⟨fun y hy => ?_, by rw [hser]; exact h.nd, ?_, fun y hy hym => ?_, runOk_map hf h.run⟩, fun y hy => ?_⟩
  · obtain ⟨x, hx, rfl⟩ := List.mem_map.1 hy
    obtain ⟨o1, o2, o3⟩ := h.ok x hx
    show (ite _ _ _ : Evt) ∈ _ ∧ canE (ite _ _ _ : Evt) = true
    split
    · rename_i c
      refine ⟨(mem_ops g.hR).2 ⟨c, fun q => by rw [o1] at q; cases q⟩, ?_⟩
      unfold canE; rw [o2]; simp
    · rename_i c
      refine ⟨(mem_ops g.hR).2 ⟨o3, fun _ r hr hrr hs => ?_⟩, rfl⟩
      have := xs_inj h (h.rets r hr hrr) hx hs
      subst this
      exact c hr
  · have := h.ord
    rw [← hser, List.pairwise_map] at this
    exact this
  · have hret : y.ret = true := by unfold mustE at hym; rw [Bool.and_eq_true] at hym; exact hym.1
    obtain ⟨y1, -⟩ := (mem_ops g.hR).1 hy
    refine List.mem_map.2 ⟨y, h.rets y y1 hret, ?_⟩
    show (ite _ _ _ : Evt) = y
    rw [if_pos y1]
  · obtain ⟨x, hx, rfl⟩ := List.mem_map.1 hy
    obtain ⟨f1, f2, -⟩ := hf x
    obtain ⟨⟨c1, c2, c3, c4⟩, -⟩ := g.cmdO _ (h.ok x hx).2.2
    have e1 : (pendE x).kind = x.kind := rfl
    have e2 : (pendE x).block = x.block := rfl
    rw [e1] at c1 c2
    rw [e2] at c3 c4
    exact ⟨x.block.toNat, by omega, inB_spec.2 ⟨by rw [f2]; omega, by rw [f1]; exact c1, by rw [f1]; exact c2⟩⟩
/-! how many operations there are -/
structure Cnt (s : EvS) (i : Nat) : Prop where
  io : (s.out.filter fun e => !e.ret).length = (s.out.filter fun e => e.ret).length + s.opn.length
  le : (s.out.filter fun e => !e.ret).length + (s.out.filter fun e => e.ret).length + s.ap.length ≤ i
theorem cnt_step {n m i : Nat} {wrong : Bool} {s : EvS} (ho : s.opn.length ≤ 5) (h : Cnt s i) : Cnt (evStep n m wrong i s) (i + 1) := by
  obtain ⟨h1, h2⟩ := h
  unfold evStep
  split
  · rename_i c
    have hk := evK0_lt c.2.1 ho
    have hx := (evX_same s.d.step.step wrong (s.opn.getD (evK0 s) default)).1
    unfold evA
    refine ⟨?_, ?_⟩
    · simp only [List.filter_append, List.length_append, List.filter_cons, hx, List.filter_nil, List.length_take, List.length_drop, Bool.not_true, if_true, List.length_singleton, List.length_nil]
      simp
      omega
    · simp only [List.filter_append, List.length_append, List.filter_cons, hx, List.filter_nil, Bool.not_true, if_true, List.length_singleton, List.length_nil]
      simp
      omega
  · split
    · unfold evP
      exact ⟨by simp only [List.length_set]; exact h1, by simp only [List.length_append, List.length_singleton]; omega⟩
    · split
      · unfold evB
        have hr : (evN s.d.step.step n i).ret = false := rfl
        refine ⟨?_, ?_⟩
        · simp only [List.filter_append, List.length_append, List.filter_cons, hr, List.filter_nil, List.length_singleton]
          simp
          omega
        · simp only [List.filter_append, List.length_append, List.filter_cons, hr, List.filter_nil]
          simp
          omega
      · exact ⟨h1, Nat.le_succ_of_le h2⟩
theorem cnt_all {n m : Nat} {wrong : Bool} {l : List Int} : ∀ i, Cnt (evI n m wrong l i) i
  | 0 => ⟨rfl, Nat.le_refl _⟩
  | i + 1 => by
    rw [evI]
    split
    · exact cnt_step (evI_len (n := n) i).opn (cnt_all i)
    · have := cnt_all (n := n) (m := m) (wrong := wrong) (l := l) i
      exact ⟨this.io, Nat.le_succ_of_le this.le⟩
theorem pair_map_nodup {l : List Evt} (h : RightO l) : ((l.filter fun e => e.ret).map Evt.serial).Nodup := by
  show List.Pairwise _ _
  rw [List.pairwise_map]
  exact pair_ord fun a b hab => by
    obtain ⟨h1, h2, h3⟩ := ord_filter.1 hab
    exact h.rets a b h3 h1 h2
theorem few_ops {n i : Nat} {s : EvS} {xs : List Evt} (g : Gen n s i) (h : Done n s xs) (c : Cnt s i) (ho : s.opn.length ≤ 5) (hi : i ≤ 36) : (operationsM s.out).length ≤ 20 := by
  have hr : (s.out.filter fun e => e.ret).length ≤ s.ap.length := by
    have := nodup_len (pair_map_nodup g.hR) (b := s.ap) (fun a ha => by
      obtain ⟨r, hr, rfl⟩ := List.mem_map.1 ha
      obtain ⟨r1, r2⟩ := List.mem_filter.1 hr
      rw [← h.ser]
      exact List.mem_map_of_mem (h.rets r r1 r2))
    rwa [List.length_map] at this
  rw [operations_len, begun_filter g.hR]
  have := c.io
  have := c.le
  omega
theorem ops_alone_le {l : List Evt} (h : RightO l) (b : Int) : (operationsM (aloneM l b)).length ≤ (operationsM l).length := by
  have := nodup_len (operations_nodup (aloneM l b)) (b := (operationsM l).map Evt.serial) (fun s hs => by
    obtain ⟨x, hx, rfl⟩ := List.mem_map.1 hs
    obtain ⟨y, y1, y2, rfl⟩ := (mem_alone h).1 hx
    show y.serial ∈ _
    exact List.mem_map_of_mem y1)
  rwa [List.length_map, List.length_map] at this
theorem ops_take_le {l : List Evt} (h : RightO l) (k : Nat) : (operationsM (l.take k)).length ≤ (operationsM l).length := by
  rw [operations_len, operations_len, begun_filter h, begun_filter (right_take h k)]
  exact ((List.take_sublist k l).filter _).length_le
end Go.Proofs
