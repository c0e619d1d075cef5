/- Part of the proofs of laws of this seat: contracts and plain lemmas; no condition is added to a statement. -/
import Derived.Test.YtmpoogflpmaijaaGreatD30L
set_option linter.unusedSimpArgs false
set_option linter.unusedVariables false
open Go Go.Am
namespace Go.Proofs
set_option maxRecDepth 20000
/-! ### a right history goes on -/
theorem ord_snoc {α : Type} : ∀ {l : List α} {x a b : α}, Ord (l ++ [x]) a b ↔ Ord l a b ∨ (a ∈ l ∧ b = x)
  | [], x, a, b => by simp [Ord]
  | y :: l, x, a, b => by
    have ih := ord_snoc (l := l) (x := x) (a := a) (b := b)
    simp only [List.cons_append, Ord, ih, List.mem_append, List.mem_cons, List.not_mem_nil, or_false]
    constructor
    · rintro (⟨h1, h2 | h2⟩ | h | ⟨h1, h2⟩)
      · exact .inl (.inl ⟨h1, h2⟩)
      · exact .inr ⟨.inl h1.symm, h2⟩
      · exact .inl (.inr h)
      · exact .inr ⟨.inr h1, h2⟩
    · rintro ((⟨h1, h2⟩ | h) | ⟨h1 | h1, h2⟩)
      · exact .inl ⟨h1, .inl h2⟩
      · exact .inr (.inl h)
      · exact .inl ⟨h1.symm, .inr h2⟩
      · exact .inr (.inr ⟨h1, h2⟩)
theorem right_inv {l : List Evt} (h : RightO l) {e : Evt} (hr : e.ret = false) (hs : ∀ x ∈ l, x.serial ≠ e.serial) (hp : e.err = 0 ∧ e.rdata = ByteArray.empty) (hg : 0 ≤ e.queue ∧ e.queue < 4 ∧ 0 ≤ e.serial) : RightO (l ++ [e]) := by
  refine ⟨fun a b hab h1 h2 => ?_, fun a b hab h1 h2 => ?_, fun r hr' h1 => ?_, fun x hx h1 => ?_, fun x hx => ?_⟩
  · rcases ord_snoc.1 hab with q | ⟨q1, q2⟩
    · exact h.inv a b q h1 h2
    · subst q2; exact hs a q1
  · rcases ord_snoc.1 hab with q | ⟨q1, q2⟩
    · exact h.rets a b q h1 h2
    · subst q2; rw [hr] at h2; cases h2
  · rcases List.mem_append.1 hr' with q | q
    · obtain ⟨e', q1, q2⟩ := h.open_ r q h1
      exact ⟨e', ord_snoc.2 (.inl q1), q2⟩
    · simp at q; subst q; rw [hr] at h1; cases h1
  · rcases List.mem_append.1 hx with q | q
    · exact h.plain x q h1
    · simp at q; subst q; exact hp
  · rcases List.mem_append.1 hx with q | q
    · exact h.range x q
    · simp at q; subst q; exact hg
theorem right_ret {l : List Evt} (h : RightO l) {r : Evt} (hr : r.ret = true) (hs : ∀ x ∈ l, x.ret = true → x.serial ≠ r.serial) (hp : pendE r ∈ l) (hf : fitsM r.kind r.err r.rdata = true) : RightO (l ++ [r]) := by
  refine ⟨fun a b hab h1 h2 => ?_, fun a b hab h1 h2 => ?_, fun x hx h1 => ?_, fun x hx h1 => ?_, fun x hx => ?_⟩
  · rcases ord_snoc.1 hab with q | ⟨q1, q2⟩
    · exact h.inv a b q h1 h2
    · subst q2; rw [hr] at h2; cases h2
  · rcases ord_snoc.1 hab with q | ⟨q1, q2⟩
    · exact h.rets a b q h1 h2
    · subst q2; exact hs a q1 h1
  · rcases List.mem_append.1 hx with q | q
    · obtain ⟨e', q1, q2⟩ := h.open_ x q h1
      exact ⟨e', ord_snoc.2 (.inl q1), q2⟩
    · simp at q; subst q
      exact ⟨pendE x, ord_snoc.2 (.inr ⟨hp, rfl⟩), rfl, rfl, rfl, rfl, rfl, rfl, hf⟩
  · rcases List.mem_append.1 hx with q | q
    · exact h.plain x q h1
    · simp at q; subst q; rw [hr] at h1; cases h1
  · rcases List.mem_append.1 hx with q | q
    · exact h.range x q
    · simp at q; subst q; have := h.range (pendE x) hp; exact this
theorem before_snoc {l : List Evt} (h : RightO l) {x : Evt} (hx : RightO (l ++ [x])) {s t : Int} (ht : x.ret = false → x.serial ≠ t) (hb : beforeM (l ++ [x]) s t = true) : beforeM l s t = true := by
  obtain ⟨r, e, h1, h2, h3, h4, h5⟩ := (before_iff hx).1 hb
  rcases ord_snoc.1 h1 with q | ⟨q1, q2⟩
  · exact (before_iff h).2 ⟨r, e, q, h2, h3, h4, h5⟩
  · subst q2; exact absurd h5 (ht h4)
theorem before_snoc_false {l : List Evt} (h : RightO l) {x : Evt} (hx : RightO (l ++ [x])) {s t : Int} (ht : x.ret = false → x.serial ≠ t) (hb : beforeM l s t = false) : beforeM (l ++ [x]) s t = false := by
  rw [← Bool.not_eq_true]
  intro q
  rw [before_snoc h hx ht q] at hb
  cases hb
/-! ### lists of open operations -/
theorem mem_set_other {l : List Evt} (hn : (l.map Evt.serial).Nodup) {k : Nat} (hk : k < l.length) {y x : Evt} (hx : x ∈ l.set k y) : x = y ∨ (x ∈ l ∧ x.serial ≠ (l.getD k default).serial) := by
  obtain ⟨j, hj, rfl⟩ := List.getElem_of_mem hx
  rw [List.length_set] at hj
  rw [List.getElem_set]
  split
  · exact .inl rfl
  · rename_i c
    refine .inr ⟨List.getElem_mem hj, fun q => c ?_⟩
    rw [← getD_at (l := l) hj] at q
    exact (ser_idx hn hj hk q).symm
theorem mem_cut_other {l : List Evt} (hn : (l.map Evt.serial).Nodup) {k : Nat} (hk : k < l.length) {x : Evt} (hx : x ∈ l.take k ++ l.drop (k + 1)) : x ∈ l ∧ x.serial ≠ (l.getD k default).serial := by
  have e : l = l.take k ++ l.getD k default :: l.drop (k + 1) := by
    rw [getD_at hk]
    rw [List.getElem_cons_drop, List.take_append_drop]
  have hn' := hn
  rw [e, List.map_append, List.map_cons, List.nodup_append, List.nodup_cons] at hn'
  generalize l.getD k default = y at *
  have hxl : x ∈ l := by
    rcases List.mem_append.1 hx with q | q
    · exact List.mem_of_mem_take q
    · exact List.mem_of_mem_drop q
  refine ⟨hxl, fun q => ?_⟩
  rcases List.mem_append.1 hx with c | c
  · exact hn'.2.2 x.serial (List.mem_map_of_mem c) y.serial (by simp) q
  · exact hn'.2.1.1 (q ▸ List.mem_map_of_mem c)
theorem set_serials {l : List Evt} {k : Nat} (hk : k < l.length) {y : Evt} (hy : y.serial = (l.getD k default).serial) : (l.set k y).map Evt.serial = l.map Evt.serial := by
  rw [List.map_set, hy, getD_at hk]
  have : l[k].serial = (l.map Evt.serial)[k]'(by simpa using hk) := by simp
  rw [this]
  exact List.set_getElem_self _
/-! ### what the drawn events keep -/
def CmdOk (n : Nat) (e : Evt) : Prop := EvOk n e ∧ cmdV n e.kind e.block e.data = 0
structure Gen (n : Nat) (s : EvS) (i : Nat) : Prop where
  hR : RightO s.out
  ser : ∀ e ∈ s.out, e.serial < i
  opnInv : ∀ e ∈ s.opn, e.ret = false ∧ pendE e ∈ s.out
  opnNo : ∀ e ∈ s.opn, ∀ r ∈ s.out, r.ret = true → r.serial ≠ e.serial
  opnD : (s.opn.map Evt.serial).Nodup
  cmdO : ∀ e ∈ s.out, CmdOk n e
  cmdP : ∀ e ∈ s.opn, CmdOk n e
  apOpn : ∀ e ∈ s.opn, e.serial ∈ s.ap → e.err = 0 ∧ fitsM e.kind 0 e.rdata = true
  apS : ∀ a ∈ s.ap, a < i
  bl : s.b.length = n
  bsz : ∀ x ∈ s.b, x.size = 16
theorem evN_cmd {d : DiceM} {n i : Nat} (hn : 1 ≤ n ∧ n ≤ 1000) : CmdOk n (evN d n i) := by
  have h := evN_ok (d := d) (i := i) hn
  refine ⟨h, ?_⟩
  obtain ⟨h1, h2, h3, h4⟩ := h
  unfold cmdV
  rw [if_neg (by omega), if_neg (by omega), if_neg]
  show ¬((1 + d.step.next 3) = 2 ∧ ByteArray.size (if 1 + d.step.next 3 = 2 then valueS (1 + d.step.step.step.next 4) else ByteArray.empty) ≠ 16 ∨ (1 + d.step.next 3) ≠ 2 ∧ ByteArray.size (if 1 + d.step.next 3 = 2 then valueS (1 + d.step.step.step.next 4) else ByteArray.empty) ≠ 0)
  by_cases c : 1 + d.step.next 3 = 2
  · rw [if_pos c, valueS_size]; omega
  · rw [if_neg c, show ByteArray.size ByteArray.empty = 0 from rfl]; omega
theorem evX_same (d : DiceM) (wrong : Bool) (e : Evt) : (evX d wrong e).1.ret = true ∧ pendE (evX d wrong e).1 = pendE e ∧ (evX d wrong e).1.serial = e.serial ∧ (evX d wrong e).1.kind = e.kind ∧ (evX d wrong e).1.block = e.block ∧ (evX d wrong e).1.data = e.data ∧ (evX d wrong e).1.err = e.err ∧
    ((evX d wrong e).1.rdata = e.rdata ∨ (wrong = true ∧ e.kind = 1 ∧ (evX d wrong e).1.rdata.size = 16)) := by
  unfold evX
  split
  · rename_i hw
    split
    · rename_i c
      exact ⟨rfl, rfl, rfl, rfl, rfl, rfl, rfl, .inr ⟨hw, c.2, valueS_size _⟩⟩
    · exact ⟨rfl, rfl, rfl, rfl, rfl, rfl, rfl, .inl rfl⟩
  · exact ⟨rfl, rfl, rfl, rfl, rfl, rfl, rfl, .inl rfl⟩
theorem appB_all {bs : List ByteArray} {k b : Int} {d : ByteArray} (h : ∀ x ∈ bs, x.size = 16) (hc : cmdV bs.length k b d = 0) : ∀ x ∈ appB bs k b d, x.size = 16 := by
  unfold appB
  rw [if_neg (by rw [hc]; simp)]
  have hk := cmdV_kind hc
  by_cases c2 : k = 2
  · rw [if_pos c2]
    intro x hx
    rcases List.mem_or_eq_of_mem_set hx with q | q
    · exact h x q
    · rw [q]; exact hk.2.2.2 c2
  · rw [if_neg c2]
    by_cases c3 : k = 3
    · rw [if_pos c3]
      intro x hx
      rcases List.mem_or_eq_of_mem_set hx with q | q
      · exact h x q
      · rw [q]; rfl
    · rw [if_neg c3]; exact h
theorem appD_fits {bs : List ByteArray} {k b : Int} {d : ByteArray} (h : ∀ x ∈ bs, x.size = 16) (hc : cmdV bs.length k b d = 0) : fitsM k 0 (appD bs k b d) = true := by
  have ha : appD bs k b d = if k = 1 then bs.getD b.toNat ByteArray.empty else ByteArray.empty := by unfold appD; rw [if_neg (by rw [hc]; simp)]
  rw [ha]
  unfold fitsM
  rw [if_pos rfl]
  have hk := cmdV_kind hc
  by_cases c : k = 1
  · rw [if_pos c, if_pos c]
    obtain ⟨h1, h2⟩ := hk.2.2.1 (by omega)
    have hb : b.toNat < bs.length := by omega
    have : bs.getD b.toNat ByteArray.empty = bs[b.toNat] := by simp [List.getD, hb]
    rw [this, decide_eq_true (h _ (List.getElem_mem hb))]
  · rw [if_neg c, if_neg c]; simp
section
variable {n i : Nat} {s : EvS} (h : Gen n s i)
include h
theorem Gen.ap_lt {e : Evt} (he : e ∈ s.opn) : e.serial < i := h.ser (pendE e) (h.opnInv e he).2
theorem Gen.mono (d : DiceM) : Gen n ⟨d, s.out, s.opn, s.ap, s.b⟩ (i + 1) :=
  ⟨h.hR, fun e he => by have := h.ser e he; omega, h.opnInv, h.opnNo, h.opnD, h.cmdO, h.cmdP, h.apOpn, fun a ha => by have := h.apS a ha; omega, h.bl, h.bsz⟩
theorem Gen.retOk {wrong : Bool} {k : Nat} (hk : k < s.opn.length) (ha : (s.opn.getD k default).serial ∈ s.ap) (d : DiceM) : RightO (s.out ++ [(evX d wrong (s.opn.getD k default)).1]) := by
  have he : s.opn.getD k default ∈ s.opn := idx_mem hk
  generalize s.opn.getD k default = e at *
  obtain ⟨x1, x2, x3, x4, x5, x6, x7, x8⟩ := evX_same d wrong e
  obtain ⟨a1, a2⟩ := h.apOpn e he ha
  refine right_ret h.hR x1 (fun x hx hr => by rw [x3]; exact h.opnNo e he x hx hr) (by rw [x2]; exact (h.opnInv e he).2) ?_
  rw [x4, x7, a1]
  rcases x8 with q | ⟨-, q1, q2⟩
  · rw [q]; exact a2
  · unfold fitsM
    rw [if_pos rfl, if_pos q1, q2]; rfl
theorem Gen.stepA {wrong : Bool} {k : Nat} (hk : k < s.opn.length) (ha : (s.opn.getD k default).serial ∈ s.ap) (d : DiceM) : Gen n (evA s d k wrong) (i + 1) := by
  have hright := h.retOk (wrong := wrong) hk ha d
  have hmem : ∀ x ∈ s.opn.take k ++ s.opn.drop (k + 1), x ∈ s.opn ∧ x.serial ≠ (s.opn.getD k default).serial := fun x hx => mem_cut_other h.opnD hk hx
  have he : s.opn.getD k default ∈ s.opn := idx_mem hk
  obtain ⟨x1, x2, x3, x4, x5, x6, x7, x8⟩ := evX_same d wrong (s.opn.getD k default)
  have hlt := h.ap_lt he
  unfold evA
  generalize hr : (evX d wrong (s.opn.getD k default)).1 = r at *
  refine ⟨hright, fun e q => ?_, fun e q => ?_, fun e q x hx hxr => ?_, ?_, fun e q => ?_, fun e q => h.cmdP e (hmem e q).1, fun e q => h.apOpn e (hmem e q).1, fun a q => by have := h.apS a q; omega, h.bl, h.bsz⟩
  · rcases List.mem_append.1 q with q | q
    · have := h.ser e q; omega
    · simp at q; subst q; rw [x3]; omega
  · obtain ⟨o1, o2⟩ := h.opnInv e (hmem e q).1
    exact ⟨o1, List.mem_append.2 (.inl o2)⟩
  · rcases List.mem_append.1 hx with c | c
    · exact h.opnNo e (hmem e q).1 x c hxr
    · simp at c; subst c; rw [x3]; exact fun q' => (hmem e q).2 q'.symm
  · have hsub : (s.opn.take k ++ s.opn.drop (k + 1)).Sublist s.opn := by
      conv => rhs; rw [← List.take_append_drop k s.opn]
      refine List.Sublist.append_left ?_ _
      rw [← List.drop_drop]
      exact List.drop_sublist _ _
    exact h.opnD.sublist (hsub.map _)
  · rcases List.mem_append.1 q with q | q
    · exact h.cmdO e q
    · simp at q; subst q
      obtain ⟨⟨c1, c2, c3, c4⟩, c5⟩ := h.cmdP _ he
      refine ⟨⟨by rw [x4]; exact c1, by rw [x4]; exact c2, by rw [x5]; exact c3, by rw [x5]; exact c4⟩, by rw [x4, x5, x6]; exact c5⟩
theorem Gen.stepP {k : Nat} (hk : k < s.opn.length) (d : DiceM) : Gen n (evP s d k) (i + 1) := by
  have he : s.opn.getD k default ∈ s.opn := idx_mem hk
  have hmem : ∀ x ∈ s.opn.set k (evD s.b (s.opn.getD k default)), x = evD s.b (s.opn.getD k default) ∨ (x ∈ s.opn ∧ x.serial ≠ (s.opn.getD k default).serial) := fun x hx => mem_set_other h.opnD hk hx
  have hser := set_serials (l := s.opn) hk (y := evD s.b (s.opn.getD k default)) rfl
  have hlt := h.ap_lt he
  have hcm := h.cmdP _ he
  have hcv : cmdV (s.b.length : Int) (s.opn.getD k default).kind (s.opn.getD k default).block (s.opn.getD k default).data = 0 := by rw [h.bl]; exact hcm.2
  unfold evP
  generalize s.opn.getD k default = e at *
  refine ⟨h.hR, fun x q => by have := h.ser x q; omega, fun x q => ?_, fun x q => ?_, ?_, h.cmdO, fun x q => ?_, fun x q ha => ?_, fun a q => ?_, by show (appB _ _ _ _).length = n; rw [appB_len]; exact h.bl, appB_all h.bsz hcv⟩
  · rcases hmem x q with rfl | ⟨q1, -⟩
    · exact ⟨(h.opnInv e he).1, (h.opnInv e he).2⟩
    · exact h.opnInv x q1
  · rcases hmem x q with rfl | ⟨q1, -⟩
    · exact h.opnNo e he
    · exact h.opnNo x q1
  · show ((s.opn.set k (evD s.b e)).map Evt.serial).Nodup
    rw [hser]; exact h.opnD
  · rcases hmem x q with rfl | ⟨q1, -⟩
    · exact hcm
    · exact h.cmdP x q1
  · rcases hmem x q with rfl | ⟨q1, q2⟩
    · exact ⟨hcv, appD_fits h.bsz hcv⟩
    · rcases List.mem_append.1 ha with c | c
      · exact h.apOpn x q1 c
      · simp at c; exact absurd c q2
  · rcases List.mem_append.1 q with c | c
    · have := h.apS a c; omega
    · simp at c; subst c; omega
theorem Gen.invOk (hn : 1 ≤ n ∧ n ≤ 1000) (d : DiceM) : RightO (s.out ++ [evN d n i]) := by
  have h1 := DiceM.next_range d (n := 4) (by omega) (by omega)
  refine right_inv h.hR rfl (fun x hx => ?_) ⟨rfl, rfl⟩ ⟨h1.1, h1.2, Int.natCast_nonneg i⟩
  have := h.ser x hx
  show x.serial ≠ (i : Int)
  omega
theorem Gen.stepB (hn : 1 ≤ n ∧ n ≤ 1000) (d : DiceM) : Gen n (evB s d n i) (i + 1) := by
  have hright := h.invOk hn d
  have hcm := evN_cmd (d := d) (i := i) hn
  have hsr : (evN d n i).serial = (i : Int) := rfl
  have hrt : (evN d n i).ret = false := rfl
  have hpd : pendE (evN d n i) = evN d n i := rfl
  unfold evB
  generalize evN d n i = e at *
  refine ⟨hright, fun x q => ?_, fun x q => ?_, fun x q r hr hrr => ?_, ?_, fun x q => ?_, fun x q => ?_, fun x q ha => ?_, fun a q => by have := h.apS a q; omega, h.bl, h.bsz⟩
  · rcases List.mem_append.1 q with q | q
    · have := h.ser x q; omega
    · simp at q; subst q; rw [hsr]; omega
  · rcases List.mem_append.1 q with q | q
    · obtain ⟨o1, o2⟩ := h.opnInv x q
      exact ⟨o1, List.mem_append.2 (.inl o2)⟩
    · simp at q; subst q; rw [hpd]; exact ⟨hrt, List.mem_append.2 (.inr (by simp))⟩
  · have hr' : r ∈ s.out := by
      rcases List.mem_append.1 hr with c | c
      · exact c
      · simp at c; subst c; rw [hrt] at hrr; cases hrr
    rcases List.mem_append.1 q with q | q
    · exact h.opnNo x q r hr' hrr
    · simp at q; subst q; rw [hsr]; have := h.ser r hr'; omega
  · show ((s.opn ++ [e]).map Evt.serial).Nodup
    rw [List.map_append, List.nodup_append]
    refine ⟨h.opnD, by simp, fun a ha b hb => ?_⟩
    simp at hb; subst hb
    obtain ⟨x, hx, rfl⟩ := List.mem_map.1 ha
    have := h.ap_lt hx
    rw [hsr]; omega
  · rcases List.mem_append.1 q with q | q
    · exact h.cmdO x q
    · simp at q; subst q; exact hcm
  · rcases List.mem_append.1 q with q | q
    · exact h.cmdP x q
    · simp at q; subst q; exact hcm
  · rcases List.mem_append.1 q with q | q
    · exact h.apOpn x q ha
    · simp at q; subst q
      have := h.apS _ ha
      rw [hsr] at this; omega
end
theorem Gen.start (n : Nat) (d : DiceM) : Gen n ⟨d, [], [], [], zerosM n⟩ 0 :=
  ⟨⟨fun a b h => h.elim, fun a b h => h.elim, fun r hr => by simp at hr, fun e he => by simp at he, fun e he => by simp at he⟩, fun e he => by simp at he, fun e he => by simp at he, fun e he => by simp at he, List.nodup_nil, fun e he => by simp at he, fun e he => by simp at he, fun e he => by simp at he, fun e he => by simp at he, by simp [zerosM], fun x hx => by
    have hx' : x ∈ zerosM n := hx
    unfold zerosM at hx'
    rw [List.eq_of_mem_replicate hx']; rfl⟩
theorem evK0_lt {s : EvS} (hp : 0 < s.opn.length) (ho : s.opn.length ≤ 5) : evK0 s < s.opn.length := by
  have := DiceM.next_range s.d (n := ((max 1 s.opn.length : Nat) : Int)) (by omega) (by omega)
  unfold evK0
  omega
theorem gen_step {n m i : Nat} {wrong : Bool} {s : EvS} (hn : 1 ≤ n ∧ n ≤ 1000) (ho : s.opn.length ≤ 5) (h : Gen n s i) : Gen n (evStep n m wrong i s) (i + 1) := by
  unfold evStep
  split
  · rename_i c
    exact h.stepA (evK0_lt c.2.1 ho) c.2.2 _
  · split
    · rename_i c
      exact h.stepP (evK0_lt c.2.1 ho) _
    · split
      · exact h.stepB hn _
      · exact h.mono _
theorem gen_all {n m : Nat} {wrong : Bool} {l : List Int} (hn : 1 ≤ n ∧ n ≤ 1000) : ∀ i, Gen n (evI n m wrong l i) i
  | 0 => Gen.start n _
  | i + 1 => by
    rw [evI]
    split
    · exact gen_step hn (evI_len (n := n) i).opn (gen_all hn i)
    · exact (gen_all hn i).mono _
end Go.Proofs
