/- Part of the proofs of laws of this seat: contracts and plain lemmas; no condition is added to a statement. -/
import Derived.Test.YtmollgldghpbkaaGreatModC
import Derived.Test.YtmollgldghpbkaaGreatCtI
set_option linter.unusedSimpArgs false
set_option linter.unusedVariables false
section
open Go Go.Am
namespace Go.Proofs
theorem getD_set {α : Type} {l : List α} {q i : Nat} {x d : α} (hq : q < l.length) : (l.set q x).getD i d = if i = q then x else l.getD i d := by
  simp only [List.getD, List.getElem?_set]
  by_cases h : q = i
  · subst h; simp [hq]
  · rw [if_neg h, if_neg (fun e => h e.symm)]
theorem getD_snoc {α : Type} {l : List α} {i : Nat} {x d : α} (hi : i < l.length + 1) : (l ++ [x]).getD i d = if i = l.length then x else l.getD i d := by
  simp only [List.getD]
  by_cases h : i = l.length
  · subst h; simp
  · rw [if_neg h, List.getElem?_append_left (by omega)]
structure QOk (c : Conf) (serial : Int) (r : Rng) (w : Wrk) : Prop where
  ring : ringOk r = true
  depth : r.depth = c.depth
  work : wrkOk c w = true
  req : w.state = 0 ∨ w.req.serial < serial
  items : ∀ k, k < r.items.length → (r.items.getD k default).serial < serial
theorem QOk.later {c : Conf} {n n' : Int} {r : Rng} {w : Wrk} (h : QOk c n r w) (hn : n ≤ n') : QOk c n' r w :=
  ⟨h.ring, h.depth, h.work, h.req.imp id fun k => by omega, fun k hk => by have := h.items k hk; omega⟩
theorem queueOk_Q {s : St} {i : Nat} : queueOk s i = true ↔ QOk s.cfg s.serial (s.rings.getD i default) (s.works.getD i default) := by
  unfold queueOk
  simp only [Bool.and_eq_true, decide_eq_true_eq]
  exact ⟨fun ⟨a, b, c, d, e⟩ => ⟨a, b, c, d, e⟩, fun ⟨a, b, c, d, e⟩ => ⟨a, b, c, d, e⟩⟩
structure Parts (s : St) : Prop where
  cfg : confE s.cfg = 0
  dev : check s.dev = 0
  zones : (s.dev.zones.length : Int) = s.cfg.zones
  size : s.dev.size = s.cfg.size
  map : mapOk s.map = true
  shards : (s.map.length : Int) = s.cfg.shards
  blocks : blocksIn s.map s.cfg.blocks = true
  counts : countsOk s.live s.pend = true
  live : (s.live.length : Int) = s.cfg.zones
  locks : locksOk s.owner = true
  stripes : (s.owner.length : Int) = s.cfg.shards
  epochs : epochsOk s.glob s.pins s.rets = true
  pins : (s.pins.length : Int) = s.cfg.queues
  pool : poolOk s.cfg s.free s.host s.lane = true
  rings : (s.rings.length : Int) = s.cfg.queues
  works : (s.works.length : Int) = s.cfg.queues
  next : 1 ≤ s.next ∧ s.next ≤ 1099511627776
  serial : 0 ≤ s.serial ∧ s.serial ≤ 1099511627776
theorem partsM_P {s : St} : partsM s = true ↔ Parts s := by
  unfold partsM
  simp only [Bool.and_eq_true, decide_eq_true_eq]
  constructor
  · rintro ⟨a1, a2, ⟨a3, a4⟩, a5, a6, a7, a8, a9, a10, a11, a12, a13, a14, ⟨a15, a16⟩, a17, a18, a19, a20⟩
    exact ⟨a1, a2, a3, a4, a5, a6, a7, a8, a9, a10, a11, a12, a13, a14, a15, a16, ⟨a17, a18⟩, ⟨a19, a20⟩⟩
  · rintro ⟨a1, a2, a3, a4, a5, a6, a7, a8, a9, a10, a11, a12, a13, a14, a15, a16, ⟨a17, a18⟩, ⟨a19, a20⟩⟩
    exact ⟨a1, a2, ⟨a3, a4⟩, a5, a6, a7, a8, a9, a10, a11, a12, a13, a14, ⟨a15, a16⟩, a17, a18, a19, a20⟩
structure Val (s : St) : Prop where
  parts : Parts s
  queues : ∀ i, i < s.rings.length → QOk s.cfg s.serial (s.rings.getD i default) (s.works.getD i default)
  evs : ∀ i, i < s.evs.length → (s.evs.getD i default).serial < s.serial
theorem validS_V {s : St} : validS s = true ↔ Val s := by
  unfold validS
  simp only [Bool.and_eq_true, decide_eq_true_eq, queueOk_Q, partsM_P]
  exact ⟨fun ⟨a, b, c⟩ => ⟨a, b, c⟩, fun ⟨a, b, c⟩ => ⟨a, b, c⟩⟩
theorem ringOk_R {r : Rng} : ringOk r = true ↔ (1 ≤ r.depth ∧ r.depth ≤ 8 ∧ (r.items.length : Int) ≤ r.depth) ∧ ∀ i, i < r.items.length → 0 ≤ (r.items.getD i default).serial ∧ (0 < i → (r.items.getD (i - 1) default).serial < (r.items.getD i default).serial) := by
  unfold ringOk
  rw [Bool.and_eq_true, decide_eq_true_eq, decide_eq_true_eq]
theorem ringSub_ok {r : Rng} {x : Req} (h : ringOk r = true) (h0 : 0 ≤ x.serial) (hx : ∀ k, k < r.items.length → (r.items.getD k default).serial < x.serial) :
    ((r.items.length : Int) = r.depth ∧ ringSub r x = (r, 13)) ∨ ((r.items.length : Int) < r.depth ∧ ringSub r x = (⟨r.depth, r.items ++ [x]⟩, 0) ∧ ringOk ⟨r.depth, r.items ++ [x]⟩ = true) := by
  have hr := ringOk_R.1 h
  by_cases c : (r.items.length : Int) = r.depth
  · left
    exact ⟨c, by unfold ringSub; rw [if_pos h, if_pos c]⟩
  · right
    refine ⟨by omega, ?_, ?_⟩
    · unfold ringSub
      rw [if_pos h, if_neg c, if_neg]
      rintro (q | ⟨q1, q2⟩)
      · omega
      · have := hx (r.items.length - 1) (by omega); omega
    · rw [ringOk_R]
      simp only [List.length_append, List.length_cons, List.length_nil]
      refine ⟨by omega, fun i hi => ?_⟩
      rw [getD_snoc hi]
      by_cases e : i = r.items.length
      · rw [if_pos e]
        refine ⟨h0, fun hi0 => ?_⟩
        rw [getD_snoc (by omega), if_neg (by omega)]
        exact hx _ (by omega)
      · rw [if_neg e]
        have := hr.2 i (by omega)
        refine ⟨this.1, fun hi0 => ?_⟩
        rw [getD_snoc (by omega), if_neg (by omega)]
        exact this.2 hi0
theorem ringTake_ok {r : Rng} (h : ringOk r = true) (hn : 0 < r.items.length) : ringTake r = (⟨r.depth, r.items.drop 1⟩, r.items.getD 0 default, true) ∧ ringOk ⟨r.depth, r.items.drop 1⟩ = true := by
  have hr := ringOk_R.1 h
  refine ⟨if_pos ⟨h, hn⟩, ?_⟩
  rw [ringOk_R]
  have hd : ∀ i, (r.items.drop 1).getD i default = r.items.getD (1 + i) default := fun i => by simp only [List.getD, List.getElem?_drop]
  simp only [List.length_drop]
  refine ⟨by omega, fun i hi => ?_⟩
  rw [hd, hd]
  have := hr.2 (1 + i) (by omega)
  refine ⟨this.1, fun hi0 => ?_⟩
  have h2 := this.2 (by omega)
  rw [show 1 + i - 1 = 1 + (i - 1) by omega] at h2
  exact h2
theorem ring_getD0 {r : Rng} {P : Req → Prop} (h : ∀ k, k < r.items.length → P (r.items.getD k default)) : ∀ k, k < (r.items.drop 1).length → P ((r.items.drop 1).getD k default) := fun k hk => by
  rw [List.length_drop] at hk
  rw [show (r.items.drop 1).getD k default = r.items.getD (1 + k) default by simp only [List.getD, List.getElem?_drop]]
  exact h _ (by omega)
theorem Val.submit {s : St} (h : Val s) (q : Int) (x : Req) : Val (submitS s q x).1 := by
  unfold submitS
  rw [if_pos (validS_V.2 h)]
  split
  · rename_i hq
    split
    · exact h
    · rename_i hl
      have hser := h.parts.serial
      by_cases hc : s.closed = true
      · simp only [if_pos hc]
        refine ⟨{ h.parts with serial := ⟨by show 0 ≤ s.serial + 1; omega, by show s.serial + 1 ≤ _; omega⟩ }, fun i hi => ?_, fun i hi => ?_⟩
        · exact (h.queues i hi).later (show s.serial ≤ s.serial + 1 by omega)
        · simp only [St.addEv, List.length_append, List.length_cons, List.length_nil] at hi ⊢
          rw [getD_snoc (by simp; omega)]
          split
          · show s.serial < s.serial + 1; omega
          · rename_i hne
            simp only [List.length_append, List.length_cons, List.length_nil] at hne
            rw [getD_snoc (by omega)]
            split
            · show s.serial < s.serial + 1; omega
            · have := h.evs i (by omega)
              show _ < s.serial + 1; omega
      · simp only [if_neg hc]
        have hq2 : q.toNat < s.rings.length := by omega
        have hQ := h.queues q.toNat hq2
        rcases ringSub_ok (x := { x with serial := s.serial }) hQ.ring hser.1 hQ.items with ⟨_, e⟩ | ⟨hlt, e, hok⟩
        · rw [e]; rw [if_pos (show (13 : Int) ≠ 0 by decide)]; exact h
        · rw [e]
          rw [if_neg (show ¬ (0 : Int) ≠ 0 by decide)]
          refine ⟨{ h.parts with serial := ⟨by show 0 ≤ s.serial + 1; omega, by show s.serial + 1 ≤ _; omega⟩, rings := by simp only [St.addEv, St.setRing, List.length_set]; exact h.parts.rings }, fun i hi => ?_, fun i hi => ?_⟩
          · simp only [St.addEv, St.setRing, List.length_set] at hi ⊢
            have := h.queues i hi
            rw [getD_set hq2]
            split
            · rename_i ei
              subst ei
              refine ⟨hok, hQ.depth, hQ.work, hQ.req.imp id fun k => by omega, fun k hk => ?_⟩
              simp only [List.length_append, List.length_cons, List.length_nil] at hk
              rw [getD_snoc hk]
              split
              · show s.serial < s.serial + 1; omega
              · have := hQ.items k (by omega); omega
            · exact this.later (by omega)
          · simp only [St.addEv, St.setRing, List.length_append, List.length_cons, List.length_nil] at hi ⊢
            rw [getD_snoc hi]
            split
            · show s.serial < s.serial + 1; omega
            · have := h.evs i (by omega); omega
  · exact h
theorem Val.setWork {s : St} (h : Val s) {q : Nat} {w : Wrk} (hq : q < s.works.length) (h1 : wrkOk s.cfg w = true) (h2 : w.state = 0 ∨ w.req.serial < s.serial) : Val (s.setWork q w) := by
  refine ⟨{ h.parts with works := by simp only [St.setWork, List.length_set]; exact h.parts.works }, fun i hi => ?_, h.evs⟩
  have := h.queues i hi
  simp only [St.setWork]
  rw [getD_set hq]
  split
  · rename_i e; subst e; exact ⟨this.ring, this.depth, h1, h2, this.items⟩
  · exact this
theorem Val.addEv {s : St} (h : Val s) {e : Evt} (he : e.serial < s.serial) : Val (s.addEv e) := by
  refine ⟨{ h.parts with }, h.queues, fun i hi => ?_⟩
  simp only [St.addEv, List.length_append, List.length_cons, List.length_nil] at hi ⊢
  rw [getD_snoc hi]
  split
  · exact he
  · exact h.evs i (by omega)
end Go.Proofs
end

section
open Go Go.Am
namespace Go.Proofs
set_option maxRecDepth 20000
def evP (r : Bool) (s : Int) (e : Evt) : Bool := decide (e.ret = r ∧ e.serial = s)
def firstQ (l : List Evt) (r : Bool) (s : Int) : Int := if l.any (evP r s) = true then (l.findIdx (evP r s) : Nat) else -1
theorem evP_inv (l : List Evt) (n : Int) : l.any (evP false n) = invokedM l n := by
  unfold invokedM
  congr 1
  funext e
  unfold evP
  cases e.ret <;> simp
theorem evP_ans (l : List Evt) (n : Int) : l.any (evP true n) = answeredM l n := by
  unfold answeredM
  congr 1
  funext e
  unfold evP
  cases e.ret <;> simp
theorem firstQ_neg (l : List Evt) (r : Bool) (s : Int) : decide (firstQ l r s < 0) = !l.any (evP r s) := by
  unfold firstQ
  split
  · rename_i h; rw [h]; exact decide_eq_false (by omega)
  · rename_i h; rw [bool_no h]; rfl
theorem firstQ_pos (l : List Evt) (r : Bool) (s : Int) : decide (firstQ l r s ≥ 0) = l.any (evP r s) := by
  unfold firstQ
  split
  · rename_i h; rw [h]; exact decide_eq_true (by omega)
  · rename_i h; rw [bool_no h]; rfl
theorem firstQ_lt (l : List Evt) (r : Bool) (s : Int) : firstQ l r s < l.length := by
  unfold firstQ
  split
  · rename_i h
    rw [List.any_eq_true] at h
    have := List.findIdx_lt_length_of_exists h
    omega
  · omega
theorem inv18_spec (l : List Evt) (s : Int) (hl : l.length ≤ 1000000) : PSpec Tryz.prog 68 [.c (evC l), .c (.int .i64 s)] (.c (.int .i64 (firstQ l false s))) := by
  refine PSpec.rm ?_
  refine CSpec.of_vc hΓ Tryz.func68 rfl 28 0 [.tmp 4] Tryz.ntmps68 rfl (by rw [Tryz.results68]) rfl ?_
  conv => whnf
  repeat' ((first | refine Need.auto ?_ | refine Have.mk (fun _h => ?_)); conv => whnf)
  refine Lp.mkK hΓ (ι := Nat) [0, 1] (fun k => [(5, .c (.int .i64 k))]) (fun k => []) (fun k => k ≤ l.length ∧ ∀ j, j < k → evP false s (l.getD j default) = false) (fun k => l.length - k) 0 ⟨Nat.zero_le _, fun j hj => absurd hj (Nat.not_lt_zero _)⟩ ?_ ?_
  · refine Mv.mkW ?_ ?_ (Nat.le_of_ble_eq_true rfl) <;> (repeat' (first | exact WA.nil | refine WA.cons rfl ?_ ?_ | exact WB.nil | refine WB.cons ?_ ?_ | exact WT.nil | refine WT.cons ?_ ?_ | exact WH.nil | refine WH.cons ?_ ?_ | exact WR.nil | refine WR.cons rfl ?_ ?_ | refine WO.vr ?_ | exact WO.dead | exact WO.mpS | refine WO.mpA ?_ | exact WO.arrPA (fun i j => plainRow _ _ _) | refine WO.arrA ?_ | exact WS.u | refine WS.c ?_ | refine WS.a ?_ | refine WS.t ?_ | exact WL.nil | refine WL.cons ?_ ?_ | exact WTL.nil | refine WTL.consC ?_ ?_ | refine WTL.consL ?_ ?_ | exact WC.nils | exact WC.nil rfl | exact WC.nilp | refine WC.fzA | exact WC.ptr rfl (Nat.le_of_ble_eq_true rfl) | exact WC.mpr rfl (Nat.le_of_ble_eq_true rfl) | refine WC.slA | refine WC.intA | refine WC.int ?_ | refine WC.boolA | refine WC.bool ?_ | refine WC.strA | refine WC.str ?_ | exact WC.imm rfl))
  · intro k ⟨hk, h0⟩
    conv => whnf
    repeat' ((first | refine Need.auto ?_ | refine Have.mk (fun _h => ?_)); conv => whnf)
    (first | refine Br.lt (fun h1 => ?_) (fun h1 => ?_) | refine Br.le (fun h1 => ?_) (fun h1 => ?_) | refine Br.gt (fun h1 => ?_) (fun h1 => ?_) | refine Br.ge (fun h1 => ?_) (fun h1 => ?_) | refine Br.eq (fun h1 => ?_) (fun h1 => ?_) | refine Br.ne (fun h1 => ?_) (fun h1 => ?_) | refine Br.not (fun h1 => ?_) (fun h1 => ?_) | refine Br.mk (fun h1 => ?_) (fun h1 => ?_)) <;> (try simp only [Int.toNat_natCast] at h1) <;> (conv => whnf)
    · repeat' ((first | refine Need.auto ?_ | refine Have.mk (fun _h => ?_)); conv => whnf)
      have w0 := wrap_id (↑k + 1) (by omega) (by omega)
      rcases Bool.eq_false_or_eq_true (evP false s (l.getD k default)) with hb | hb
      · have hb' : (l.getD k default).ret = false ∧ (l.getD k default).serial = s := of_decide_eq_true hb
        refine Br.yes (by simp [-List.getD_eq_getElem?_getD, hb'.1, hb'.2]) ?_
        conv => whnf
        repeat' ((first | refine Need.auto ?_ | refine Have.mk (fun _h => ?_)); conv => whnf)
        obtain ⟨q1, q2⟩ := any_getD (p := evP false s) (by omega) hb h0
        rw [show firstQ l false s = (k : Int) by unfold firstQ; rw [if_pos q1, q2]]
        refine RM.immW rfl ?_; (repeat' (first | exact WA.nil | refine WA.cons rfl ?_ ?_ | exact WB.nil | refine WB.cons ?_ ?_ | exact WT.nil | refine WT.cons ?_ ?_ | exact WH.nil | refine WH.cons ?_ ?_ | exact WR.nil | refine WR.cons rfl ?_ ?_ | refine WO.vr ?_ | exact WO.dead | exact WO.mpS | refine WO.mpA ?_ | exact WO.arrPA (fun i j => plainRow _ _ _) | refine WO.arrA ?_ | exact WS.u | refine WS.c ?_ | refine WS.a ?_ | refine WS.t ?_ | exact WL.nil | refine WL.cons ?_ ?_ | exact WTL.nil | refine WTL.consC ?_ ?_ | refine WTL.consL ?_ ?_ | exact WC.nils | exact WC.nil rfl | exact WC.nilp | refine WC.fzA | exact WC.ptr rfl (Nat.le_of_ble_eq_true rfl) | exact WC.mpr rfl (Nat.le_of_ble_eq_true rfl) | refine WC.slA | refine WC.intA | refine WC.int ?_ | refine WC.boolA | refine WC.bool ?_ | refine WC.strA | refine WC.str ?_ | exact WC.imm rfl))
      · have hb' : ¬ ((l.getD k default).ret = false ∧ (l.getD k default).serial = s) := of_decide_eq_false hb
        refine Br.no (Bool.eq_false_iff.2 fun e => hb' (by simpa [-List.getD_eq_getElem?_getD] using e)) ?_
        conv => whnf
        repeat' ((first | refine Need.auto ?_ | refine Have.mk (fun _h => ?_)); conv => whnf)
        refine ⟨k + 1, ⟨by omega, all_step h0 hb⟩, by omega, ?_⟩
        refine Mv.mkW ?_ ?_ (Nat.le_of_ble_eq_true rfl) <;> (repeat' (first | exact WA.nil | refine WA.cons rfl ?_ ?_ | exact WB.nil | refine WB.cons ?_ ?_ | exact WT.nil | refine WT.cons ?_ ?_ | exact WH.nil | refine WH.cons ?_ ?_ | exact WR.nil | refine WR.cons rfl ?_ ?_ | refine WO.vr ?_ | exact WO.dead | exact WO.mpS | refine WO.mpA ?_ | exact WO.arrPA (fun i j => plainRow _ _ _) | refine WO.arrA ?_ | exact WS.u | refine WS.c ?_ | refine WS.a ?_ | refine WS.t ?_ | exact WL.nil | refine WL.cons ?_ ?_ | exact WTL.nil | refine WTL.consC ?_ ?_ | refine WTL.consL ?_ ?_ | exact WC.nils | exact WC.nil rfl | exact WC.nilp | refine WC.fzA | exact WC.ptr rfl (Nat.le_of_ble_eq_true rfl) | exact WC.mpr rfl (Nat.le_of_ble_eq_true rfl) | refine WC.slA | refine WC.intA | refine WC.int ?_ | refine WC.boolA | refine WC.bool ?_ | refine WC.strA | refine WC.str ?_ | exact WC.imm rfl))
    · repeat' ((first | refine Need.auto ?_ | refine Have.mk (fun _h => ?_)); conv => whnf)
      rw [show firstQ l false s = -1 by unfold firstQ; rw [if_neg (any_none (fun j hj => h0 j (by omega)))]]
      refine RM.immW rfl ?_; (repeat' (first | exact WA.nil | refine WA.cons rfl ?_ ?_ | exact WB.nil | refine WB.cons ?_ ?_ | exact WT.nil | refine WT.cons ?_ ?_ | exact WH.nil | refine WH.cons ?_ ?_ | exact WR.nil | refine WR.cons rfl ?_ ?_ | refine WO.vr ?_ | exact WO.dead | exact WO.mpS | refine WO.mpA ?_ | exact WO.arrPA (fun i j => plainRow _ _ _) | refine WO.arrA ?_ | exact WS.u | refine WS.c ?_ | refine WS.a ?_ | refine WS.t ?_ | exact WL.nil | refine WL.cons ?_ ?_ | exact WTL.nil | refine WTL.consC ?_ ?_ | refine WTL.consL ?_ ?_ | exact WC.nils | exact WC.nil rfl | exact WC.nilp | refine WC.fzA | exact WC.ptr rfl (Nat.le_of_ble_eq_true rfl) | exact WC.mpr rfl (Nat.le_of_ble_eq_true rfl) | refine WC.slA | refine WC.intA | refine WC.int ?_ | refine WC.boolA | refine WC.bool ?_ | refine WC.strA | refine WC.str ?_ | exact WC.imm rfl))
theorem inv18_body : HasBody Tryz.prog 68 := ⟨⟨Tryz.f68, Tryz.func68, rfl, by kernel_rfl⟩⟩
theorem ret18_spec (l : List Evt) (s : Int) (hl : l.length ≤ 1000000) : PSpec Tryz.prog 69 [.c (evC l), .c (.int .i64 s)] (.c (.int .i64 (firstQ l true s))) := by
  refine PSpec.rm ?_
  refine CSpec.of_vc hΓ Tryz.func69 rfl 27 0 [.tmp 4] Tryz.ntmps69 rfl (by rw [Tryz.results69]) rfl ?_
  conv => whnf
  repeat' ((first | refine Need.auto ?_ | refine Have.mk (fun _h => ?_)); conv => whnf)
  refine Lp.mkK hΓ (ι := Nat) [0, 1] (fun k => [(5, .c (.int .i64 k))]) (fun k => []) (fun k => k ≤ l.length ∧ ∀ j, j < k → evP true s (l.getD j default) = false) (fun k => l.length - k) 0 ⟨Nat.zero_le _, fun j hj => absurd hj (Nat.not_lt_zero _)⟩ ?_ ?_
  · refine Mv.mkW ?_ ?_ (Nat.le_of_ble_eq_true rfl) <;> (repeat' (first | exact WA.nil | refine WA.cons rfl ?_ ?_ | exact WB.nil | refine WB.cons ?_ ?_ | exact WT.nil | refine WT.cons ?_ ?_ | exact WH.nil | refine WH.cons ?_ ?_ | exact WR.nil | refine WR.cons rfl ?_ ?_ | refine WO.vr ?_ | exact WO.dead | exact WO.mpS | refine WO.mpA ?_ | exact WO.arrPA (fun i j => plainRow _ _ _) | refine WO.arrA ?_ | exact WS.u | refine WS.c ?_ | refine WS.a ?_ | refine WS.t ?_ | exact WL.nil | refine WL.cons ?_ ?_ | exact WTL.nil | refine WTL.consC ?_ ?_ | refine WTL.consL ?_ ?_ | exact WC.nils | exact WC.nil rfl | exact WC.nilp | refine WC.fzA | exact WC.ptr rfl (Nat.le_of_ble_eq_true rfl) | exact WC.mpr rfl (Nat.le_of_ble_eq_true rfl) | refine WC.slA | refine WC.intA | refine WC.int ?_ | refine WC.boolA | refine WC.bool ?_ | refine WC.strA | refine WC.str ?_ | exact WC.imm rfl))
  · intro k ⟨hk, h0⟩
    conv => whnf
    repeat' ((first | refine Need.auto ?_ | refine Have.mk (fun _h => ?_)); conv => whnf)
    (first | refine Br.lt (fun h1 => ?_) (fun h1 => ?_) | refine Br.le (fun h1 => ?_) (fun h1 => ?_) | refine Br.gt (fun h1 => ?_) (fun h1 => ?_) | refine Br.ge (fun h1 => ?_) (fun h1 => ?_) | refine Br.eq (fun h1 => ?_) (fun h1 => ?_) | refine Br.ne (fun h1 => ?_) (fun h1 => ?_) | refine Br.not (fun h1 => ?_) (fun h1 => ?_) | refine Br.mk (fun h1 => ?_) (fun h1 => ?_)) <;> (try simp only [Int.toNat_natCast] at h1) <;> (conv => whnf)
    · repeat' ((first | refine Need.auto ?_ | refine Have.mk (fun _h => ?_)); conv => whnf)
      have w0 := wrap_id (↑k + 1) (by omega) (by omega)
      rcases Bool.eq_false_or_eq_true (evP true s (l.getD k default)) with hb | hb
      · have hb' : (l.getD k default).ret = true ∧ (l.getD k default).serial = s := of_decide_eq_true hb
        refine Br.yes (by simp [-List.getD_eq_getElem?_getD, hb'.1, hb'.2]) ?_
        conv => whnf
        repeat' ((first | refine Need.auto ?_ | refine Have.mk (fun _h => ?_)); conv => whnf)
        obtain ⟨q1, q2⟩ := any_getD (p := evP true s) (by omega) hb h0
        rw [show firstQ l true s = (k : Int) by unfold firstQ; rw [if_pos q1, q2]]
        refine RM.immW rfl ?_; (repeat' (first | exact WA.nil | refine WA.cons rfl ?_ ?_ | exact WB.nil | refine WB.cons ?_ ?_ | exact WT.nil | refine WT.cons ?_ ?_ | exact WH.nil | refine WH.cons ?_ ?_ | exact WR.nil | refine WR.cons rfl ?_ ?_ | refine WO.vr ?_ | exact WO.dead | exact WO.mpS | refine WO.mpA ?_ | exact WO.arrPA (fun i j => plainRow _ _ _) | refine WO.arrA ?_ | exact WS.u | refine WS.c ?_ | refine WS.a ?_ | refine WS.t ?_ | exact WL.nil | refine WL.cons ?_ ?_ | exact WTL.nil | refine WTL.consC ?_ ?_ | refine WTL.consL ?_ ?_ | exact WC.nils | exact WC.nil rfl | exact WC.nilp | refine WC.fzA | exact WC.ptr rfl (Nat.le_of_ble_eq_true rfl) | exact WC.mpr rfl (Nat.le_of_ble_eq_true rfl) | refine WC.slA | refine WC.intA | refine WC.int ?_ | refine WC.boolA | refine WC.bool ?_ | refine WC.strA | refine WC.str ?_ | exact WC.imm rfl))
      · have hb' : ¬ ((l.getD k default).ret = true ∧ (l.getD k default).serial = s) := of_decide_eq_false hb
        refine Br.no (Bool.eq_false_iff.2 fun e => hb' (by simpa [-List.getD_eq_getElem?_getD] using e)) ?_
        conv => whnf
        repeat' ((first | refine Need.auto ?_ | refine Have.mk (fun _h => ?_)); conv => whnf)
        refine ⟨k + 1, ⟨by omega, all_step h0 hb⟩, by omega, ?_⟩
        refine Mv.mkW ?_ ?_ (Nat.le_of_ble_eq_true rfl) <;> (repeat' (first | exact WA.nil | refine WA.cons rfl ?_ ?_ | exact WB.nil | refine WB.cons ?_ ?_ | exact WT.nil | refine WT.cons ?_ ?_ | exact WH.nil | refine WH.cons ?_ ?_ | exact WR.nil | refine WR.cons rfl ?_ ?_ | refine WO.vr ?_ | exact WO.dead | exact WO.mpS | refine WO.mpA ?_ | exact WO.arrPA (fun i j => plainRow _ _ _) | refine WO.arrA ?_ | exact WS.u | refine WS.c ?_ | refine WS.a ?_ | refine WS.t ?_ | exact WL.nil | refine WL.cons ?_ ?_ | exact WTL.nil | refine WTL.consC ?_ ?_ | refine WTL.consL ?_ ?_ | exact WC.nils | exact WC.nil rfl | exact WC.nilp | refine WC.fzA | exact WC.ptr rfl (Nat.le_of_ble_eq_true rfl) | exact WC.mpr rfl (Nat.le_of_ble_eq_true rfl) | refine WC.slA | refine WC.intA | refine WC.int ?_ | refine WC.boolA | refine WC.bool ?_ | refine WC.strA | refine WC.str ?_ | exact WC.imm rfl))
    · repeat' ((first | refine Need.auto ?_ | refine Have.mk (fun _h => ?_)); conv => whnf)
      rw [show firstQ l true s = -1 by unfold firstQ; rw [if_neg (any_none (fun j hj => h0 j (by omega)))]]
      refine RM.immW rfl ?_; (repeat' (first | exact WA.nil | refine WA.cons rfl ?_ ?_ | exact WB.nil | refine WB.cons ?_ ?_ | exact WT.nil | refine WT.cons ?_ ?_ | exact WH.nil | refine WH.cons ?_ ?_ | exact WR.nil | refine WR.cons rfl ?_ ?_ | refine WO.vr ?_ | exact WO.dead | exact WO.mpS | refine WO.mpA ?_ | exact WO.arrPA (fun i j => plainRow _ _ _) | refine WO.arrA ?_ | exact WS.u | refine WS.c ?_ | refine WS.a ?_ | refine WS.t ?_ | exact WL.nil | refine WL.cons ?_ ?_ | exact WTL.nil | refine WTL.consC ?_ ?_ | refine WTL.consL ?_ ?_ | exact WC.nils | exact WC.nil rfl | exact WC.nilp | refine WC.fzA | exact WC.ptr rfl (Nat.le_of_ble_eq_true rfl) | exact WC.mpr rfl (Nat.le_of_ble_eq_true rfl) | refine WC.slA | refine WC.intA | refine WC.int ?_ | refine WC.boolA | refine WC.bool ?_ | refine WC.strA | refine WC.str ?_ | exact WC.imm rfl))
theorem ret18_body : HasBody Tryz.prog 69 := ⟨⟨Tryz.f69, Tryz.func69, rfl, by kernel_rfl⟩⟩
theorem openTo_cond {l : List Evt} {k : Nat} : openTo l (k + 1) = if (l.getD k default).ret = false ∧ answeredM l (l.getD k default).serial = false ∧ invokedM (l.take k) (l.getD k default).serial = false then openTo l k ++ [(l.getD k default).serial] else openTo l k := rfl
theorem WC.evT {ρ : Nat → Nat} {n : Nat} {l : List Evt} {k : Nat} {t : Bool} (h : k ≤ l.length) : WC ρ n (.isl 8 (k : Int).toNat (evG l) t) (evC (l.take k)) := by
  have e : (k : Int).toNat = k := by simp
  rw [e]
  refine WC.isl (by rw [List.length_take]; omega) (fun i hi j _ => ?_) (fun e => by cases e)
  unfold evG rowG
  congr 1
  simp [List.getD, hi]
set_option maxHeartbeats 4000000 in
theorem pending18_spec (l : List Evt) (hl : l.length ≤ 1000000) : PSpec Tryz.prog 29 [.c (evC l)] (.c (intsC (openM l))) := by
  refine PSpec.rm ?_
  refine CSpec.of_vc hΓ Tryz.func29 rfl 48 0 [.tmp 2] Tryz.ntmps29 rfl (by rw [Tryz.results29]) rfl ?_
  conv => whnf
  repeat' ((first | refine Need.auto ?_ | refine Have.mk (fun _h => ?_)); conv => whnf)
  refine Lp.reserve 3 1 (intsG .i64 []) 3 rfl ?_
  refine Lp.mkK hΓ (ι := Nat) [0, 2] (fun k => [(4, .c (.int .i64 k)), (3, .c (.sl 0 1 (openTo l k).length (openTo l k).length false))]) (fun k => [.arr 3 1 (openTo l k).length (intsG .i64 (openTo l k))]) (fun k => k ≤ l.length) (fun i => l.length - i) 0 (Nat.zero_le _) ?_ ?_
  · refine Mv.mkW ?_ ?_ (Nat.le_of_ble_eq_true rfl) <;> (repeat' (first | exact WA.nil | refine WA.cons rfl ?_ ?_ | exact WB.nil | refine WB.cons ?_ ?_ | exact WT.nil | refine WT.cons ?_ ?_ | exact WH.nil | refine WH.cons ?_ ?_ | exact WR.nil | refine WR.cons rfl ?_ ?_ | refine WO.vr ?_ | exact WO.dead | exact WO.mpS | refine WO.mpA ?_ | exact WO.arrPA (fun i j => plainRow _ _ _) | refine WO.arrA ?_ | exact WS.u | refine WS.c ?_ | refine WS.a ?_ | refine WS.t ?_ | exact WL.nil | refine WL.cons ?_ ?_ | exact WTL.nil | refine WTL.consC ?_ ?_ | refine WTL.consL ?_ ?_ | exact WC.nils | exact WC.nil rfl | exact WC.nilp | refine WC.fzA | exact WC.ptr rfl (Nat.le_of_ble_eq_true rfl) | exact WC.mpr rfl (Nat.le_of_ble_eq_true rfl) | refine WC.slA | refine WC.intA | refine WC.int ?_ | refine WC.boolA | refine WC.bool ?_ | refine WC.strA | refine WC.str ?_ | exact WC.imm rfl))
  · intro q hq
    have hlq := openTo_len l q
    conv => whnf
    repeat' ((first | refine Need.auto ?_ | refine Have.mk (fun _h => ?_)); conv => whnf)
    (first | refine Br.lt (fun h3 => ?_) (fun h3 => ?_) | refine Br.le (fun h3 => ?_) (fun h3 => ?_) | refine Br.gt (fun h3 => ?_) (fun h3 => ?_) | refine Br.ge (fun h3 => ?_) (fun h3 => ?_) | refine Br.eq (fun h3 => ?_) (fun h3 => ?_) | refine Br.ne (fun h3 => ?_) (fun h3 => ?_) | refine Br.not (fun h3 => ?_) (fun h3 => ?_) | refine Br.mk (fun h3 => ?_) (fun h3 => ?_)) <;> (try simp only [Int.toNat_natCast] at h3) <;> (conv => whnf)
    · repeat' ((first | refine Need.auto ?_ | refine Have.mk (fun _h => ?_)); conv => whnf)
      refine Dr.mk hΓ hMix (by kernel_rfl) ?_; conv => whnf
      repeat' ((first | refine Need.auto ?_ | refine Have.mk (fun _h => ?_)); conv => whnf)
      have hq' : q ≤ l.length := hq
      have w0 := wrap_id (↑q + 1) (by omega) (by omega)
      refine CallP.mkGW inv18_body (fun _ => inv18_spec (l.take q) (l.getD q default).serial (by rw [List.length_take]; omega)) (by (repeat' (first | exact WA.nil | refine WA.cons rfl ?_ ?_ | exact WB.nil | refine WB.cons ?_ ?_ | exact WT.nil | refine WT.cons ?_ ?_ | exact WH.nil | refine WH.cons ?_ ?_ | exact WR.nil | refine WR.cons rfl ?_ ?_ | refine WO.vr ?_ | exact WO.dead | exact WO.mpS | refine WO.mpA ?_ | exact WO.arrPA (fun i j => plainRow _ _ _) | refine WO.arrA ?_ | exact WS.u | refine WS.c ?_ | refine WS.a ?_ | refine WS.t ?_ | exact WL.nil | refine WL.cons ?_ ?_ | exact WTL.nil | refine WTL.consC ?_ ?_ | refine WTL.consL ?_ ?_ | exact WC.nils | exact WC.nil rfl | exact WC.nilp | refine WC.fzA | exact WC.ptr rfl (Nat.le_of_ble_eq_true rfl) | exact WC.mpr rfl (Nat.le_of_ble_eq_true rfl) | refine WC.slA | refine WC.intA | refine WC.int ?_ | refine WC.boolA | refine WC.bool ?_ | refine WC.strA | refine WC.str ?_ | exact WC.imm rfl)); exact WC.evT hq') rfl ?_
      conv => whnf
      repeat' ((first | refine Need.auto ?_ | refine Have.mk (fun _h => ?_)); conv => whnf)
      refine CallP.autoG ret18_body (fun _ => ret18_spec l (l.getD q default).serial hl ) ?_
      conv => whnf
      repeat' ((first | refine Need.auto ?_ | refine Have.mk (fun _h => ?_)); conv => whnf)
      by_cases c : (l.getD q default).ret = false ∧ answeredM l (l.getD q default).serial = false ∧ invokedM (l.take q) (l.getD q default).serial = false
      · have hto : openTo l (q + 1) = openTo l q ++ [(l.getD q default).serial] := openTo_cond.trans (if_pos c)
        have hl2 : (openTo l (q + 1)).length = (openTo l q).length + 1 := by rw [hto]; simp
        refine Br.yes (by
          have e1 := firstQ_neg (l.take q) false (l.getD q default).serial
          have e2 := firstQ_neg l true (l.getD q default).serial
          rw [evP_inv, c.2.2] at e1
          rw [evP_ans, c.2.1] at e2
          simp [-List.getD_eq_getElem?_getD, c.1] at e1 e2 ⊢
          exact ⟨e1, e2⟩) ?_
        conv => whnf
        repeat' ((first | refine Need.auto ?_ | refine Have.mk (fun _h => ?_)); conv => whnf)
        refine ⟨q + 1, by omega, by omega, ?_⟩
        refine Mv.mkW ?_ ?_ (Nat.le_of_ble_eq_true rfl) <;> (repeat' (first | exact WA.nil | refine WA.cons rfl ?_ ?_ | exact WB.nil | refine WB.cons ?_ ?_ | exact WT.nil | refine WT.cons ?_ ?_ | exact WH.nil | refine WH.cons ?_ ?_ | exact WR.nil | refine WR.cons rfl ?_ ?_ | refine WO.vr ?_ | exact WO.dead | exact WO.mpS | refine WO.mpA ?_ | exact WO.arrPA (fun i j => plainRow _ _ _) | refine WO.arrA ?_ | exact WS.u | refine WS.c ?_ | refine WS.a ?_ | refine WS.t ?_ | exact WL.nil | refine WL.cons ?_ ?_ | exact WTL.nil | refine WTL.consC ?_ ?_ | refine WTL.consL ?_ ?_ | exact WC.nils | exact WC.nil rfl | exact WC.nilp | refine WC.fzA | exact WC.ptr rfl (Nat.le_of_ble_eq_true rfl) | exact WC.mpr rfl (Nat.le_of_ble_eq_true rfl) | refine WC.slA | refine WC.intA | refine WC.int ?_ | refine WC.boolA | refine WC.bool ?_ | refine WC.strA | refine WC.str ?_ | exact WC.imm rfl))
        intro i hi j hj
        rw [hto]
        exact WC.eq (intsSnoc rfl (by omega) hj) rfl
      · have hto : openTo l (q + 1) = openTo l q := openTo_cond.trans (if_neg c)
        refine Br.no (Bool.eq_false_iff.2 fun e => c (by
          have e1 := firstQ_neg (l.take q) false (l.getD q default).serial
          have e2 := firstQ_neg l true (l.getD q default).serial
          rw [evP_inv] at e1
          rw [evP_ans] at e2
          simp [-List.getD_eq_getElem?_getD] at e
          rw [decide_eq_true e.1.2] at e1
          rw [decide_eq_true e.2] at e2
          exact ⟨e.1.1, by simpa using e2.symm, by simpa using e1.symm⟩)) ?_
        conv => whnf
        repeat' ((first | refine Need.auto ?_ | refine Have.mk (fun _h => ?_)); conv => whnf)
        refine ⟨q + 1, by omega, by omega, ?_⟩
        rw [hto]
        refine Mv.mkW ?_ ?_ (Nat.le_of_ble_eq_true rfl) <;> (repeat' (first | exact WA.nil | refine WA.cons rfl ?_ ?_ | exact WB.nil | refine WB.cons ?_ ?_ | exact WT.nil | refine WT.cons ?_ ?_ | exact WH.nil | refine WH.cons ?_ ?_ | exact WR.nil | refine WR.cons rfl ?_ ?_ | refine WO.vr ?_ | exact WO.dead | exact WO.mpS | refine WO.mpA ?_ | exact WO.arrPA (fun i j => plainRow _ _ _) | refine WO.arrA ?_ | exact WS.u | refine WS.c ?_ | refine WS.a ?_ | refine WS.t ?_ | exact WL.nil | refine WL.cons ?_ ?_ | exact WTL.nil | refine WTL.consC ?_ ?_ | refine WTL.consL ?_ ?_ | exact WC.nils | exact WC.nil rfl | exact WC.nilp | refine WC.fzA | exact WC.ptr rfl (Nat.le_of_ble_eq_true rfl) | exact WC.mpr rfl (Nat.le_of_ble_eq_true rfl) | refine WC.slA | refine WC.intA | refine WC.int ?_ | refine WC.boolA | refine WC.bool ?_ | refine WC.strA | refine WC.str ?_ | exact WC.imm rfl))
    · repeat' ((first | refine Need.auto ?_ | refine Have.mk (fun _h => ?_)); conv => whnf)
      have : q = l.length := by omega
      subst this
      exact RM.allC (Fw.sl rfl rfl (fun i _ j _ => Fw.same rfl) (fun e => by cases e))
theorem pending18_body : HasBody Tryz.prog 29 := ⟨⟨Tryz.f29, Tryz.func29, rfl, by kernel_rfl⟩⟩
end Go.Proofs
end

section
open Go Go.Am
namespace Go.Proofs
set_option maxRecDepth 20000
def fitsM (kind err : Int) (rdata : ByteArray) : Bool :=
  if err = 0 then (if kind = 1 then decide (rdata.size = 16) else decide (rdata = ByteArray.empty))
  else if err = 7 ∨ err = 1 ∨ err = 2 ∨ err = 3 ∨ err = 12 then decide (rdata = ByteArray.empty) else false
theorem fits18_spec (kind block err : Int) (data rdata : ByteArray) : PSpec Tryz.prog 143 [.a [.int .i64 kind, .int .i64 block, .str data], .a [.int .i64 err, .str rdata]] (.c (.bool (fitsM kind err rdata))) := by
  refine PSpec.rm ?_
  refine CSpec.of_vc hΓ Tryz.func143 rfl 37 0 [.tmp 4] Tryz.ntmps143 rfl (by rw [Tryz.results143]) rfl ?_
  conv => whnf
  repeat' ((first | refine Need.auto ?_ | refine Have.mk (fun _h => ?_)); conv => whnf)
  (first | refine Br.lt (fun h0 => ?_) (fun h0 => ?_) | refine Br.le (fun h0 => ?_) (fun h0 => ?_) | refine Br.gt (fun h0 => ?_) (fun h0 => ?_) | refine Br.ge (fun h0 => ?_) (fun h0 => ?_) | refine Br.eq (fun h0 => ?_) (fun h0 => ?_) | refine Br.ne (fun h0 => ?_) (fun h0 => ?_) | refine Br.not (fun h0 => ?_) (fun h0 => ?_) | (refine Br.mk (fun h0 => ?_) (fun h0 => ?_) <;> simp [-List.length_eq_zero_iff, -List.getD_eq_getElem?_getD] at h0)) <;> (try simp only [Int.toNat_natCast] at h0) <;> (conv => whnf)
  · repeat' ((first | refine Need.auto ?_ | refine Have.mk (fun _h => ?_)); conv => whnf)
    refine RM.immW rfl ?_; (repeat' (first | exact WA.nil | refine WA.cons rfl ?_ ?_ | exact WB.nil | refine WB.cons ?_ ?_ | exact WT.nil | refine WT.cons ?_ ?_ | exact WH.nil | refine WH.cons ?_ ?_ | exact WR.nil | refine WR.cons rfl ?_ ?_ | refine WO.vr ?_ | exact WO.dead | exact WO.mpS | refine WO.mpA ?_ | exact WO.arrPA (fun i j => plainRow _ _ _) | refine WO.arrA ?_ | exact WS.u | refine WS.c ?_ | refine WS.a ?_ | refine WS.t ?_ | exact WL.nil | refine WL.cons ?_ ?_ | exact WTL.nil | refine WTL.consC ?_ ?_ | refine WTL.consL ?_ ?_ | exact WC.nils | exact WC.nil rfl | exact WC.nilp | refine WC.fzA | exact WC.ptr rfl (Nat.le_of_ble_eq_true rfl) | exact WC.mpr rfl (Nat.le_of_ble_eq_true rfl) | refine WC.slA | refine WC.intA | refine WC.int ?_ | refine WC.boolA | refine WC.bool ?_ | refine WC.strA | refine WC.str ?_ | exact WC.imm rfl))
    unfold fitsM
    rw [if_pos h0]
    by_cases h1 : kind = 1
    · rw [if_pos h1]
      by_cases h2 : rdata.size = 16
      · simp [h1, h2]
      · have : ¬ ((rdata.size : Int) = 16) := by omega
        simp [h1, h2, this]
    · rw [if_neg h1]
      have e1 : (kind == 1) = false := by simpa using h1
      have e2 : (kind != 1) = true := by simpa using h1
      rw [e1, e2]
      rfl
  · repeat' ((first | refine Need.auto ?_ | refine Have.mk (fun _h => ?_)); conv => whnf)
    (first | refine Br.lt (fun h1 => ?_) (fun h1 => ?_) | refine Br.le (fun h1 => ?_) (fun h1 => ?_) | refine Br.gt (fun h1 => ?_) (fun h1 => ?_) | refine Br.ge (fun h1 => ?_) (fun h1 => ?_) | refine Br.eq (fun h1 => ?_) (fun h1 => ?_) | refine Br.ne (fun h1 => ?_) (fun h1 => ?_) | refine Br.not (fun h1 => ?_) (fun h1 => ?_) | (refine Br.mk (fun h1 => ?_) (fun h1 => ?_) <;> simp [-List.length_eq_zero_iff, -List.getD_eq_getElem?_getD] at h1)) <;> (try simp only [Int.toNat_natCast] at h1) <;> (conv => whnf)
    · repeat' ((first | refine Need.auto ?_ | refine Have.mk (fun _h => ?_)); conv => whnf)
      refine Br.yes (by simp [h1]) ?_
      conv => whnf
      repeat' ((first | refine Need.auto ?_ | refine Have.mk (fun _h => ?_)); conv => whnf)
      refine RM.immW rfl ?_; (repeat' (first | exact WA.nil | refine WA.cons rfl ?_ ?_ | exact WB.nil | refine WB.cons ?_ ?_ | exact WT.nil | refine WT.cons ?_ ?_ | exact WH.nil | refine WH.cons ?_ ?_ | exact WR.nil | refine WR.cons rfl ?_ ?_ | refine WO.vr ?_ | exact WO.dead | exact WO.mpS | refine WO.mpA ?_ | exact WO.arrPA (fun i j => plainRow _ _ _) | refine WO.arrA ?_ | exact WS.u | refine WS.c ?_ | refine WS.a ?_ | refine WS.t ?_ | exact WL.nil | refine WL.cons ?_ ?_ | exact WTL.nil | refine WTL.consC ?_ ?_ | refine WTL.consL ?_ ?_ | exact WC.nils | exact WC.nil rfl | exact WC.nilp | refine WC.fzA | exact WC.ptr rfl (Nat.le_of_ble_eq_true rfl) | exact WC.mpr rfl (Nat.le_of_ble_eq_true rfl) | refine WC.slA | refine WC.intA | refine WC.int ?_ | refine WC.boolA | refine WC.bool ?_ | refine WC.strA | refine WC.str ?_ | exact WC.imm rfl))
      simp [fitsM, *]
      rfl
    · repeat' ((first | refine Need.auto ?_ | refine Have.mk (fun _h => ?_)); conv => whnf)
      (first | refine Br.lt (fun h2 => ?_) (fun h2 => ?_) | refine Br.le (fun h2 => ?_) (fun h2 => ?_) | refine Br.gt (fun h2 => ?_) (fun h2 => ?_) | refine Br.ge (fun h2 => ?_) (fun h2 => ?_) | refine Br.eq (fun h2 => ?_) (fun h2 => ?_) | refine Br.ne (fun h2 => ?_) (fun h2 => ?_) | refine Br.not (fun h2 => ?_) (fun h2 => ?_) | (refine Br.mk (fun h2 => ?_) (fun h2 => ?_) <;> simp [-List.length_eq_zero_iff, -List.getD_eq_getElem?_getD] at h2)) <;> (try simp only [Int.toNat_natCast] at h2) <;> (conv => whnf)
      · repeat' ((first | refine Need.auto ?_ | refine Have.mk (fun _h => ?_)); conv => whnf)
        refine Br.yes (by simp [h2]) ?_
        conv => whnf
        repeat' ((first | refine Need.auto ?_ | refine Have.mk (fun _h => ?_)); conv => whnf)
        refine RM.immW rfl ?_; (repeat' (first | exact WA.nil | refine WA.cons rfl ?_ ?_ | exact WB.nil | refine WB.cons ?_ ?_ | exact WT.nil | refine WT.cons ?_ ?_ | exact WH.nil | refine WH.cons ?_ ?_ | exact WR.nil | refine WR.cons rfl ?_ ?_ | refine WO.vr ?_ | exact WO.dead | exact WO.mpS | refine WO.mpA ?_ | exact WO.arrPA (fun i j => plainRow _ _ _) | refine WO.arrA ?_ | exact WS.u | refine WS.c ?_ | refine WS.a ?_ | refine WS.t ?_ | exact WL.nil | refine WL.cons ?_ ?_ | exact WTL.nil | refine WTL.consC ?_ ?_ | refine WTL.consL ?_ ?_ | exact WC.nils | exact WC.nil rfl | exact WC.nilp | refine WC.fzA | exact WC.ptr rfl (Nat.le_of_ble_eq_true rfl) | exact WC.mpr rfl (Nat.le_of_ble_eq_true rfl) | refine WC.slA | refine WC.intA | refine WC.int ?_ | refine WC.boolA | refine WC.bool ?_ | refine WC.strA | refine WC.str ?_ | exact WC.imm rfl))
        simp [fitsM, *]
        rfl
      · repeat' ((first | refine Need.auto ?_ | refine Have.mk (fun _h => ?_)); conv => whnf)
        (first | refine Br.lt (fun h3 => ?_) (fun h3 => ?_) | refine Br.le (fun h3 => ?_) (fun h3 => ?_) | refine Br.gt (fun h3 => ?_) (fun h3 => ?_) | refine Br.ge (fun h3 => ?_) (fun h3 => ?_) | refine Br.eq (fun h3 => ?_) (fun h3 => ?_) | refine Br.ne (fun h3 => ?_) (fun h3 => ?_) | refine Br.not (fun h3 => ?_) (fun h3 => ?_) | (refine Br.mk (fun h3 => ?_) (fun h3 => ?_) <;> simp [-List.length_eq_zero_iff, -List.getD_eq_getElem?_getD] at h3)) <;> (try simp only [Int.toNat_natCast] at h3) <;> (conv => whnf)
        · repeat' ((first | refine Need.auto ?_ | refine Have.mk (fun _h => ?_)); conv => whnf)
          refine Br.yes (by simp [h3]) ?_
          conv => whnf
          repeat' ((first | refine Need.auto ?_ | refine Have.mk (fun _h => ?_)); conv => whnf)
          refine RM.immW rfl ?_; (repeat' (first | exact WA.nil | refine WA.cons rfl ?_ ?_ | exact WB.nil | refine WB.cons ?_ ?_ | exact WT.nil | refine WT.cons ?_ ?_ | exact WH.nil | refine WH.cons ?_ ?_ | exact WR.nil | refine WR.cons rfl ?_ ?_ | refine WO.vr ?_ | exact WO.dead | exact WO.mpS | refine WO.mpA ?_ | exact WO.arrPA (fun i j => plainRow _ _ _) | refine WO.arrA ?_ | exact WS.u | refine WS.c ?_ | refine WS.a ?_ | refine WS.t ?_ | exact WL.nil | refine WL.cons ?_ ?_ | exact WTL.nil | refine WTL.consC ?_ ?_ | refine WTL.consL ?_ ?_ | exact WC.nils | exact WC.nil rfl | exact WC.nilp | refine WC.fzA | exact WC.ptr rfl (Nat.le_of_ble_eq_true rfl) | exact WC.mpr rfl (Nat.le_of_ble_eq_true rfl) | refine WC.slA | refine WC.intA | refine WC.int ?_ | refine WC.boolA | refine WC.bool ?_ | refine WC.strA | refine WC.str ?_ | exact WC.imm rfl))
          simp [fitsM, *]
          rfl
        · repeat' ((first | refine Need.auto ?_ | refine Have.mk (fun _h => ?_)); conv => whnf)
          (first | refine Br.lt (fun h4 => ?_) (fun h4 => ?_) | refine Br.le (fun h4 => ?_) (fun h4 => ?_) | refine Br.gt (fun h4 => ?_) (fun h4 => ?_) | refine Br.ge (fun h4 => ?_) (fun h4 => ?_) | refine Br.eq (fun h4 => ?_) (fun h4 => ?_) | refine Br.ne (fun h4 => ?_) (fun h4 => ?_) | refine Br.not (fun h4 => ?_) (fun h4 => ?_) | (refine Br.mk (fun h4 => ?_) (fun h4 => ?_) <;> simp [-List.length_eq_zero_iff, -List.getD_eq_getElem?_getD] at h4)) <;> (try simp only [Int.toNat_natCast] at h4) <;> (conv => whnf)
          · repeat' ((first | refine Need.auto ?_ | refine Have.mk (fun _h => ?_)); conv => whnf)
            refine Br.yes (by simp [h4]) ?_
            conv => whnf
            repeat' ((first | refine Need.auto ?_ | refine Have.mk (fun _h => ?_)); conv => whnf)
            refine RM.immW rfl ?_; (repeat' (first | exact WA.nil | refine WA.cons rfl ?_ ?_ | exact WB.nil | refine WB.cons ?_ ?_ | exact WT.nil | refine WT.cons ?_ ?_ | exact WH.nil | refine WH.cons ?_ ?_ | exact WR.nil | refine WR.cons rfl ?_ ?_ | refine WO.vr ?_ | exact WO.dead | exact WO.mpS | refine WO.mpA ?_ | exact WO.arrPA (fun i j => plainRow _ _ _) | refine WO.arrA ?_ | exact WS.u | refine WS.c ?_ | refine WS.a ?_ | refine WS.t ?_ | exact WL.nil | refine WL.cons ?_ ?_ | exact WTL.nil | refine WTL.consC ?_ ?_ | refine WTL.consL ?_ ?_ | exact WC.nils | exact WC.nil rfl | exact WC.nilp | refine WC.fzA | exact WC.ptr rfl (Nat.le_of_ble_eq_true rfl) | exact WC.mpr rfl (Nat.le_of_ble_eq_true rfl) | refine WC.slA | refine WC.intA | refine WC.int ?_ | refine WC.boolA | refine WC.bool ?_ | refine WC.strA | refine WC.str ?_ | exact WC.imm rfl))
            simp [fitsM, *]
            rfl
          · repeat' ((first | refine Need.auto ?_ | refine Have.mk (fun _h => ?_)); conv => whnf)
            (first | refine Br.lt (fun h5 => ?_) (fun h5 => ?_) | refine Br.le (fun h5 => ?_) (fun h5 => ?_) | refine Br.gt (fun h5 => ?_) (fun h5 => ?_) | refine Br.ge (fun h5 => ?_) (fun h5 => ?_) | refine Br.eq (fun h5 => ?_) (fun h5 => ?_) | refine Br.ne (fun h5 => ?_) (fun h5 => ?_) | refine Br.not (fun h5 => ?_) (fun h5 => ?_) | (refine Br.mk (fun h5 => ?_) (fun h5 => ?_) <;> simp [-List.length_eq_zero_iff, -List.getD_eq_getElem?_getD] at h5)) <;> (try simp only [Int.toNat_natCast] at h5) <;> (conv => whnf)
            · repeat' ((first | refine Need.auto ?_ | refine Have.mk (fun _h => ?_)); conv => whnf)
              refine RM.immW rfl ?_; (repeat' (first | exact WA.nil | refine WA.cons rfl ?_ ?_ | exact WB.nil | refine WB.cons ?_ ?_ | exact WT.nil | refine WT.cons ?_ ?_ | exact WH.nil | refine WH.cons ?_ ?_ | exact WR.nil | refine WR.cons rfl ?_ ?_ | refine WO.vr ?_ | exact WO.dead | exact WO.mpS | refine WO.mpA ?_ | exact WO.arrPA (fun i j => plainRow _ _ _) | refine WO.arrA ?_ | exact WS.u | refine WS.c ?_ | refine WS.a ?_ | refine WS.t ?_ | exact WL.nil | refine WL.cons ?_ ?_ | exact WTL.nil | refine WTL.consC ?_ ?_ | refine WTL.consL ?_ ?_ | exact WC.nils | exact WC.nil rfl | exact WC.nilp | refine WC.fzA | exact WC.ptr rfl (Nat.le_of_ble_eq_true rfl) | exact WC.mpr rfl (Nat.le_of_ble_eq_true rfl) | refine WC.slA | refine WC.intA | refine WC.int ?_ | refine WC.boolA | refine WC.bool ?_ | refine WC.strA | refine WC.str ?_ | exact WC.imm rfl))
              simp [fitsM, *]
              rfl
            · repeat' ((first | refine Need.auto ?_ | refine Have.mk (fun _h => ?_)); conv => whnf)
              refine RM.immW rfl ?_; (repeat' (first | exact WA.nil | refine WA.cons rfl ?_ ?_ | exact WB.nil | refine WB.cons ?_ ?_ | exact WT.nil | refine WT.cons ?_ ?_ | exact WH.nil | refine WH.cons ?_ ?_ | exact WR.nil | refine WR.cons rfl ?_ ?_ | refine WO.vr ?_ | exact WO.dead | exact WO.mpS | refine WO.mpA ?_ | exact WO.arrPA (fun i j => plainRow _ _ _) | refine WO.arrA ?_ | exact WS.u | refine WS.c ?_ | refine WS.a ?_ | refine WS.t ?_ | exact WL.nil | refine WL.cons ?_ ?_ | exact WTL.nil | refine WTL.consC ?_ ?_ | refine WTL.consL ?_ ?_ | exact WC.nils | exact WC.nil rfl | exact WC.nilp | refine WC.fzA | exact WC.ptr rfl (Nat.le_of_ble_eq_true rfl) | exact WC.mpr rfl (Nat.le_of_ble_eq_true rfl) | refine WC.slA | refine WC.intA | refine WC.int ?_ | refine WC.boolA | refine WC.bool ?_ | refine WC.strA | refine WC.str ?_ | exact WC.imm rfl))
              simp [fitsM, *]
theorem fits18_body : HasBody Tryz.prog 143 := ⟨⟨Tryz.f143, Tryz.func143, rfl, by kernel_rfl⟩⟩
def rightQ (p : List Evt) (x : Evt) : Bool :=
  decide (0 ≤ x.queue ∧ x.queue < 4 ∧ 0 ≤ x.serial) &&
  (if x.ret = false then !invokedM p x.serial && !answeredM p x.serial && decide (x.err = 0 ∧ x.rdata = ByteArray.empty)
  else invokedM p x.serial && !answeredM p x.serial && decide ((p.getD (firstQ p false x.serial).toNat default).queue = x.queue ∧ (p.getD (firstQ p false x.serial).toNat default).kind = x.kind ∧ (p.getD (firstQ p false x.serial).toNat default).block = x.block ∧ (p.getD (firstQ p false x.serial).toNat default).data = x.data) && fitsM x.kind x.err x.rdata)
theorem right18_spec (p : List Evt) (x : Evt) (hl : p.length ≤ 1000000) : PSpec Tryz.prog 67 [.c (evC p), .a x.cells] (.c (.bool (rightQ p x))) := by
  refine PSpec.rm ?_
  refine CSpec.of_vc hΓ Tryz.func67 rfl 77 0 [.tmp 4] Tryz.ntmps67 rfl (by rw [Tryz.results67]) rfl ?_
  conv => whnf
  repeat' ((first | refine Need.auto ?_ | refine Have.mk (fun _h => ?_)); conv => whnf)
  (first | refine Br.lt (fun h0 => ?_) (fun h0 => ?_) | refine Br.le (fun h0 => ?_) (fun h0 => ?_) | refine Br.gt (fun h0 => ?_) (fun h0 => ?_) | refine Br.ge (fun h0 => ?_) (fun h0 => ?_) | refine Br.eq (fun h0 => ?_) (fun h0 => ?_) | refine Br.ne (fun h0 => ?_) (fun h0 => ?_) | refine Br.not (fun h0 => ?_) (fun h0 => ?_) | (refine Br.mk (fun h0 => ?_) (fun h0 => ?_) <;> simp [-List.length_eq_zero_iff, -List.getD_eq_getElem?_getD] at h0)) <;> (try simp only [Int.toNat_natCast] at h0) <;> (conv => whnf)
  · repeat' ((first | refine Need.auto ?_ | refine Have.mk (fun _h => ?_)); conv => whnf)
    have : rightQ p x = false := by unfold rightQ; rw [decide_eq_false (by omega)]; rfl
    rw [this]
    refine RM.immW rfl ?_; (repeat' (first | exact WA.nil | refine WA.cons rfl ?_ ?_ | exact WB.nil | refine WB.cons ?_ ?_ | exact WT.nil | refine WT.cons ?_ ?_ | exact WH.nil | refine WH.cons ?_ ?_ | exact WR.nil | refine WR.cons rfl ?_ ?_ | refine WO.vr ?_ | exact WO.dead | exact WO.mpS | refine WO.mpA ?_ | exact WO.arrPA (fun i j => plainRow _ _ _) | refine WO.arrA ?_ | exact WS.u | refine WS.c ?_ | refine WS.a ?_ | refine WS.t ?_ | exact WL.nil | refine WL.cons ?_ ?_ | exact WTL.nil | refine WTL.consC ?_ ?_ | refine WTL.consL ?_ ?_ | exact WC.nils | exact WC.nil rfl | exact WC.nilp | refine WC.fzA | exact WC.ptr rfl (Nat.le_of_ble_eq_true rfl) | exact WC.mpr rfl (Nat.le_of_ble_eq_true rfl) | refine WC.slA | refine WC.intA | refine WC.int ?_ | refine WC.boolA | refine WC.bool ?_ | refine WC.strA | refine WC.str ?_ | exact WC.imm rfl))
  · repeat' ((first | refine Need.auto ?_ | refine Have.mk (fun _h => ?_)); conv => whnf)
    refine CallN.pureA inv18_body (inv18_spec p x.serial hl ) ?_
    conv => whnf
    repeat' ((first | refine Need.auto ?_ | refine Have.mk (fun _h => ?_)); conv => whnf)
    have e1 := firstQ_neg p false x.serial
    have e2 := firstQ_neg p true x.serial
    rw [evP_inv] at e1
    rw [evP_ans] at e2
    (first | refine Br.lt (fun h1 => ?_) (fun h1 => ?_) | refine Br.le (fun h1 => ?_) (fun h1 => ?_) | refine Br.gt (fun h1 => ?_) (fun h1 => ?_) | refine Br.ge (fun h1 => ?_) (fun h1 => ?_) | refine Br.eq (fun h1 => ?_) (fun h1 => ?_) | refine Br.ne (fun h1 => ?_) (fun h1 => ?_) | refine Br.not (fun h1 => ?_) (fun h1 => ?_) | (refine Br.mk (fun h1 => ?_) (fun h1 => ?_) <;> simp [-List.length_eq_zero_iff, -List.getD_eq_getElem?_getD] at h1)) <;> (try simp only [Int.toNat_natCast] at h1) <;> (conv => whnf)
    · repeat' ((first | refine Need.auto ?_ | refine Have.mk (fun _h => ?_)); conv => whnf)
      refine CallG.auto ret18_body (fun _ => ret18_spec p x.serial hl ) ?_
      conv => whnf
      repeat' ((first | refine Need.auto ?_ | refine Have.mk (fun _h => ?_)); conv => whnf)
      refine RM.immW rfl ?_; (repeat' (first | exact WA.nil | refine WA.cons rfl ?_ ?_ | exact WB.nil | refine WB.cons ?_ ?_ | exact WT.nil | refine WT.cons ?_ ?_ | exact WH.nil | refine WH.cons ?_ ?_ | exact WR.nil | refine WR.cons rfl ?_ ?_ | refine WO.vr ?_ | exact WO.dead | exact WO.mpS | refine WO.mpA ?_ | exact WO.arrPA (fun i j => plainRow _ _ _) | refine WO.arrA ?_ | exact WS.u | refine WS.c ?_ | refine WS.a ?_ | refine WS.t ?_ | exact WL.nil | refine WL.cons ?_ ?_ | exact WTL.nil | refine WTL.consC ?_ ?_ | refine WTL.consL ?_ ?_ | exact WC.nils | exact WC.nil rfl | exact WC.nilp | refine WC.fzA | exact WC.ptr rfl (Nat.le_of_ble_eq_true rfl) | exact WC.mpr rfl (Nat.le_of_ble_eq_true rfl) | refine WC.slA | refine WC.intA | refine WC.int ?_ | refine WC.boolA | refine WC.bool ?_ | refine WC.strA | refine WC.str ?_ | exact WC.imm rfl))
      have e4 : decide (0 ≤ x.queue ∧ x.queue < 4 ∧ 0 ≤ x.serial) = true := decide_eq_true (by omega)
      unfold rightQ
      rw [e1, e2, e4, if_pos h1]
      cases invokedM p x.serial <;> cases answeredM p x.serial <;> simp
    · repeat' ((first | refine Need.auto ?_ | refine Have.mk (fun _h => ?_)); conv => whnf)
      refine Dr.mk hΓ hMix (by kernel_rfl) ?_; conv => whnf
      repeat' ((first | refine Need.auto ?_ | refine Have.mk (fun _h => ?_)); conv => whnf)
      refine CallP.autoG ret18_body (fun _ => ret18_spec p x.serial hl ) ?_
      conv => whnf
      repeat' ((first | refine Need.auto ?_ | refine Have.mk (fun _h => ?_)); conv => whnf)
      have hfr := firstQ_lt p false x.serial
      repeat (first | refine Need.mk (fun _ => hfr) ?_; conv => whnf | refine Need.auto ?_; conv => whnf)
      refine CallP.autoG fits18_body (fun _ => fits18_spec x.kind x.block x.err x.data x.rdata ) ?_
      conv => whnf
      repeat' ((first | refine Need.auto ?_ | refine Have.mk (fun _h => ?_)); conv => whnf)
      refine RM.immW rfl ?_; (repeat' (first | exact WA.nil | refine WA.cons rfl ?_ ?_ | exact WB.nil | refine WB.cons ?_ ?_ | exact WT.nil | refine WT.cons ?_ ?_ | exact WH.nil | refine WH.cons ?_ ?_ | exact WR.nil | refine WR.cons rfl ?_ ?_ | refine WO.vr ?_ | exact WO.dead | exact WO.mpS | refine WO.mpA ?_ | exact WO.arrPA (fun i j => plainRow _ _ _) | refine WO.arrA ?_ | exact WS.u | refine WS.c ?_ | refine WS.a ?_ | refine WS.t ?_ | exact WL.nil | refine WL.cons ?_ ?_ | exact WTL.nil | refine WTL.consC ?_ ?_ | refine WTL.consL ?_ ?_ | exact WC.nils | exact WC.nil rfl | exact WC.nilp | refine WC.fzA | exact WC.ptr rfl (Nat.le_of_ble_eq_true rfl) | exact WC.mpr rfl (Nat.le_of_ble_eq_true rfl) | refine WC.slA | refine WC.intA | refine WC.int ?_ | refine WC.boolA | refine WC.bool ?_ | refine WC.strA | refine WC.str ?_ | exact WC.imm rfl))
      have e3 := firstQ_pos p false x.serial
      rw [evP_inv] at e3
      have e4 : decide (0 ≤ x.queue ∧ x.queue < 4 ∧ 0 ≤ x.serial) = true := decide_eq_true (by omega)
      unfold rightQ
      rw [e2, e3, e4, if_neg (by rw [h1]; simp)]
      generalize p.getD (firstQ p false x.serial).toNat default = f
      cases fitsM x.kind x.err x.rdata <;> cases invokedM p x.serial <;> cases answeredM p x.serial <;> by_cases c1 : f.queue = x.queue <;> by_cases c2 : f.kind = x.kind <;> by_cases c3 : f.block = x.block <;> by_cases c4 : f.data = x.data <;> simp [c1, c2, c3, c4, bne]
theorem right18_body : HasBody Tryz.prog 67 := ⟨⟨Tryz.f67, Tryz.func67, rfl, by kernel_rfl⟩⟩
set_option maxHeartbeats 4000000 in
theorem check18_spec (n : Int) (l : List Evt) (hn : 1 ≤ n ∧ n ≤ 128) (hl : l.length ≤ 400) (hr : ∀ k, k < l.length → rightQ (l.take k) (l.getD k default) = true) : PSpec Tryz.prog 27 [.c (.int .i64 n), .c (evC l)] (.c (.int .i64 0)) := by
  refine PSpec.rm ?_
  refine CSpec.of_vc hΓ Tryz.func27 rfl 30 0 [.tmp 4] Tryz.ntmps27 rfl (by rw [Tryz.results27]) rfl ?_
  conv => whnf
  repeat' ((first | refine Need.auto ?_ | refine Have.mk (fun _h => ?_)); conv => whnf)
  refine Br.no (by simp; omega) ?_
  conv => whnf
  repeat' ((first | refine Need.auto ?_ | refine Have.mk (fun _h => ?_)); conv => whnf)
  refine Br.no (by simp; omega) ?_
  conv => whnf
  repeat' ((first | refine Need.auto ?_ | refine Have.mk (fun _h => ?_)); conv => whnf)
  refine Lp.mkK hΓ (ι := Nat) [1] (fun i => [(5, .c (.int .i64 i))]) (fun i => []) (fun i => i ≤ l.length) (fun i => l.length - i) 0 (Nat.zero_le _) ?_ ?_
  · refine Mv.mkW ?_ ?_ (Nat.le_of_ble_eq_true rfl) <;> (repeat' (first | exact WA.nil | refine WA.cons rfl ?_ ?_ | exact WB.nil | refine WB.cons ?_ ?_ | exact WT.nil | refine WT.cons ?_ ?_ | exact WH.nil | refine WH.cons ?_ ?_ | exact WR.nil | refine WR.cons rfl ?_ ?_ | refine WO.vr ?_ | exact WO.dead | exact WO.mpS | refine WO.mpA ?_ | exact WO.arrPA (fun i j => plainRow _ _ _) | refine WO.arrA ?_ | exact WS.u | refine WS.c ?_ | refine WS.a ?_ | refine WS.t ?_ | exact WL.nil | refine WL.cons ?_ ?_ | exact WTL.nil | refine WTL.consC ?_ ?_ | refine WTL.consL ?_ ?_ | exact WC.nils | exact WC.nil rfl | exact WC.nilp | refine WC.fzA | exact WC.ptr rfl (Nat.le_of_ble_eq_true rfl) | exact WC.mpr rfl (Nat.le_of_ble_eq_true rfl) | refine WC.slA | refine WC.intA | refine WC.int ?_ | refine WC.boolA | refine WC.bool ?_ | refine WC.strA | refine WC.str ?_ | exact WC.imm rfl))
  · intro k hk
    conv => whnf
    repeat' ((first | refine Need.auto ?_ | refine Have.mk (fun _h => ?_)); conv => whnf)
    (first | refine Br.lt (fun h2 => ?_) (fun h2 => ?_) | refine Br.le (fun h2 => ?_) (fun h2 => ?_) | refine Br.gt (fun h2 => ?_) (fun h2 => ?_) | refine Br.ge (fun h2 => ?_) (fun h2 => ?_) | refine Br.eq (fun h2 => ?_) (fun h2 => ?_) | refine Br.ne (fun h2 => ?_) (fun h2 => ?_) | refine Br.not (fun h2 => ?_) (fun h2 => ?_) | refine Br.mk (fun h2 => ?_) (fun h2 => ?_)) <;> (try simp only [Int.toNat_natCast] at h2) <;> (conv => whnf)
    · repeat' ((first | refine Need.auto ?_ | refine Have.mk (fun _h => ?_)); conv => whnf)
      have hk' : k < l.length := by omega
      have hk'' : k ≤ l.length := hk
      have w0 := wrap_id (↑k + 1) (by omega) (by omega)
      refine Dr.mk hΓ hMix (by kernel_rfl) ?_; conv => whnf
      repeat' ((first | refine Need.auto ?_ | refine Have.mk (fun _h => ?_)); conv => whnf)
      refine CallP.mkW right18_body (right18_spec (l.take k) (l.getD k default) (by rw [List.length_take]; omega)) (by (repeat' (first | exact WA.nil | refine WA.cons rfl ?_ ?_ | exact WB.nil | refine WB.cons ?_ ?_ | exact WT.nil | refine WT.cons ?_ ?_ | exact WH.nil | refine WH.cons ?_ ?_ | exact WR.nil | refine WR.cons rfl ?_ ?_ | refine WO.vr ?_ | exact WO.dead | exact WO.mpS | refine WO.mpA ?_ | exact WO.arrPA (fun i j => plainRow _ _ _) | refine WO.arrA ?_ | exact WS.u | refine WS.c ?_ | refine WS.a ?_ | refine WS.t ?_ | exact WL.nil | refine WL.cons ?_ ?_ | exact WTL.nil | refine WTL.consC ?_ ?_ | refine WTL.consL ?_ ?_ | exact WC.nils | exact WC.nil rfl | exact WC.nilp | refine WC.fzA | exact WC.ptr rfl (Nat.le_of_ble_eq_true rfl) | exact WC.mpr rfl (Nat.le_of_ble_eq_true rfl) | refine WC.slA | refine WC.intA | refine WC.int ?_ | refine WC.boolA | refine WC.bool ?_ | refine WC.strA | refine WC.str ?_ | exact WC.imm rfl)); exact WC.evT hk'') rfl ?_
      conv => whnf
      repeat' ((first | refine Need.auto ?_ | refine Have.mk (fun _h => ?_)); conv => whnf)
      refine Br.no (by rw [hr k hk']; rfl) ?_
      conv => whnf
      repeat' ((first | refine Need.auto ?_ | refine Have.mk (fun _h => ?_)); conv => whnf)
      refine ⟨k + 1, by omega, by omega, ?_⟩
      refine Mv.mkW ?_ ?_ (Nat.le_of_ble_eq_true rfl) <;> (repeat' (first | exact WA.nil | refine WA.cons rfl ?_ ?_ | exact WB.nil | refine WB.cons ?_ ?_ | exact WT.nil | refine WT.cons ?_ ?_ | exact WH.nil | refine WH.cons ?_ ?_ | exact WR.nil | refine WR.cons rfl ?_ ?_ | refine WO.vr ?_ | exact WO.dead | exact WO.mpS | refine WO.mpA ?_ | exact WO.arrPA (fun i j => plainRow _ _ _) | refine WO.arrA ?_ | exact WS.u | refine WS.c ?_ | refine WS.a ?_ | refine WS.t ?_ | exact WL.nil | refine WL.cons ?_ ?_ | exact WTL.nil | refine WTL.consC ?_ ?_ | refine WTL.consL ?_ ?_ | exact WC.nils | exact WC.nil rfl | exact WC.nilp | refine WC.fzA | exact WC.ptr rfl (Nat.le_of_ble_eq_true rfl) | exact WC.mpr rfl (Nat.le_of_ble_eq_true rfl) | refine WC.slA | refine WC.intA | refine WC.int ?_ | refine WC.boolA | refine WC.bool ?_ | refine WC.strA | refine WC.str ?_ | exact WC.imm rfl))
    · repeat' ((first | refine Need.auto ?_ | refine Have.mk (fun _h => ?_)); conv => whnf)
      refine RM.immW rfl ?_; (repeat' (first | exact WA.nil | refine WA.cons rfl ?_ ?_ | exact WB.nil | refine WB.cons ?_ ?_ | exact WT.nil | refine WT.cons ?_ ?_ | exact WH.nil | refine WH.cons ?_ ?_ | exact WR.nil | refine WR.cons rfl ?_ ?_ | refine WO.vr ?_ | exact WO.dead | exact WO.mpS | refine WO.mpA ?_ | exact WO.arrPA (fun i j => plainRow _ _ _) | refine WO.arrA ?_ | exact WS.u | refine WS.c ?_ | refine WS.a ?_ | refine WS.t ?_ | exact WL.nil | refine WL.cons ?_ ?_ | exact WTL.nil | refine WTL.consC ?_ ?_ | refine WTL.consL ?_ ?_ | exact WC.nils | exact WC.nil rfl | exact WC.nilp | refine WC.fzA | exact WC.ptr rfl (Nat.le_of_ble_eq_true rfl) | exact WC.mpr rfl (Nat.le_of_ble_eq_true rfl) | refine WC.slA | refine WC.intA | refine WC.int ?_ | refine WC.boolA | refine WC.bool ?_ | refine WC.strA | refine WC.str ?_ | exact WC.imm rfl))
theorem check18_body : HasBody Tryz.prog 27 := ⟨⟨Tryz.f27, Tryz.func27, rfl, by kernel_rfl⟩⟩
end Go.Proofs
end

section
open Go Go.Am
namespace Go.Proofs
theorem invokedM_snoc {l : List Evt} {e : Evt} {n : Int} : invokedM (l ++ [e]) n = (invokedM l n || (!e.ret && decide (e.serial = n))) := by
  unfold invokedM; simp
theorem answeredM_snoc {l : List Evt} {e : Evt} {n : Int} : answeredM (l ++ [e]) n = (answeredM l n || (e.ret && decide (e.serial = n))) := by
  unfold answeredM; simp
theorem firstQ_snoc {l : List Evt} {e : Evt} {n : Int} (h : invokedM l n = true) : firstQ (l ++ [e]) false n = firstQ l false n := by
  rw [← evP_inv] at h
  unfold firstQ
  rw [if_pos h, if_pos (by rw [List.any_append, h]; rfl), List.findIdx_append, if_pos]
  rw [List.any_eq_true] at h
  exact List.findIdx_lt_length_of_exists h
theorem firstQ_new {l : List Evt} {e : Evt} {n : Int} (h : invokedM l n = false) (h1 : e.ret = false) (h2 : e.serial = n) : firstQ (l ++ [e]) false n = l.length := by
  have he : evP false n e = true := decide_eq_true ⟨h1, h2⟩
  rw [← evP_inv] at h
  unfold firstQ
  have hn : ¬ l.findIdx (evP false n) < l.length := fun q => by
    have := List.findIdx_getElem (w := q)
    have h3 : l.any (evP false n) = true := List.any_eq_true.2 ⟨_, List.getElem_mem q, this⟩
    rw [h] at h3; cases h3
  rw [if_pos (by rw [List.any_append]; simp [he]), List.findIdx_append, if_neg hn]
  have : [e].findIdx (evP false n) = 0 := by simp [List.findIdx_cons, he]
  rw [this]
  simp
structure Live (l : List Evt) (q : Int) (x : Req) : Prop where
  inv : invokedM l x.serial = true
  ans : answeredM l x.serial = false
  same : (l.getD (firstQ l false x.serial).toNat default).queue = q ∧ (l.getD (firstQ l false x.serial).toNat default).kind = x.kind ∧ (l.getD (firstQ l false x.serial).toNat default).block = x.block ∧ (l.getD (firstQ l false x.serial).toNat default).data = x.data
  pos : 0 ≤ x.serial
theorem firstQ_range {l : List Evt} {n : Int} (h : invokedM l n = true) : (firstQ l false n).toNat < l.length := by
  have h1 := firstQ_lt l false n
  have h2 := firstQ_pos l false n
  rw [evP_inv, h] at h2
  have := of_decide_eq_true h2
  omega
theorem Live.snoc {l : List Evt} {q : Int} {x : Req} {e : Evt} (h : Live l q x) (he : e.ret = false ∨ e.serial ≠ x.serial) : Live (l ++ [e]) q x := by
  have hr := firstQ_range h.inv
  refine ⟨by rw [invokedM_snoc, h.inv]; rfl, ?_, ?_, h.pos⟩
  · rw [answeredM_snoc, h.ans]
    rcases he with he | he
    · rw [he]; rfl
    · rw [decide_eq_false he]; simp
  · rw [firstQ_snoc h.inv, getD_snoc (by omega), if_neg (by omega)]
    exact h.same
theorem Live.new {l : List Evt} {q : Int} {x : Req} (h1 : invokedM l x.serial = false) (h2 : answeredM l x.serial = false) (h3 : 0 ≤ x.serial) : Live (l ++ [tellE false q x 0 ByteArray.empty]) q x := by
  refine ⟨by rw [invokedM_snoc]; simp [tellE], by rw [answeredM_snoc, h2]; simp [tellE], ?_, h3⟩
  rw [firstQ_new h1 rfl rfl]
  rw [show ((l.length : Nat) : Int).toNat = l.length from rfl, getD_snoc (by omega), if_pos rfl]
  exact ⟨rfl, rfl, rfl, rfl⟩
theorem right_inv {l : List Evt} {q : Int} {x : Req} (hq : 0 ≤ q ∧ q < 4) (h1 : invokedM l x.serial = false) (h2 : answeredM l x.serial = false) (h3 : 0 ≤ x.serial) : rightQ l (tellE false q x 0 ByteArray.empty) = true := by
  unfold rightQ tellE
  dsimp only
  rw [decide_eq_true (show 0 ≤ q ∧ q < 4 ∧ 0 ≤ x.serial by omega), if_pos rfl, h1, h2]
  simp
theorem right_ret {l : List Evt} {q : Int} {x : Req} {err : Int} {d : ByteArray} (hq : 0 ≤ q ∧ q < 4) (h : Live l q x) (hf : fitsM x.kind err d = true) : rightQ l (tellE true q x err d) = true := by
  have h3 := h.pos
  unfold rightQ tellE
  dsimp only
  rw [decide_eq_true (show 0 ≤ q ∧ q < 4 ∧ 0 ≤ x.serial by omega), if_neg (by simp), h.inv, h.ans, decide_eq_true h.same, hf]
  rfl
def RightAll (l : List Evt) : Prop := ∀ k, k < l.length → rightQ (l.take k) (l.getD k default) = true
theorem RightAll.snoc {l : List Evt} {e : Evt} (h : RightAll l) (he : rightQ l e = true) : RightAll (l ++ [e]) := fun k hk => by
  simp only [List.length_append, List.length_cons, List.length_nil] at hk
  rw [getD_snoc (by omega)]
  by_cases c : k = l.length
  · rw [if_pos c, c, List.take_append_of_le_length (Nat.le_refl _), List.take_length]; exact he
  · rw [if_neg c, List.take_append_of_le_length (by omega)]; exact h k (by omega)
structure Hist (s : St) : Prop where
  right : RightAll s.evs
  rings : ∀ i, i < s.rings.length → ∀ k, k < (s.rings.getD i default).items.length → Live s.evs i ((s.rings.getD i default).items.getD k default)
  works : ∀ i, i < s.rings.length → (s.works.getD i default).state ≠ 0 → Live s.evs i (s.works.getD i default).req
  apart : ∀ i, i < s.rings.length → (s.works.getD i default).state ≠ 0 → ∀ k, k < (s.rings.getD i default).items.length → ((s.rings.getD i default).items.getD k default).serial ≠ (s.works.getD i default).req.serial
theorem Live.queue {l : List Evt} {q q' : Int} {x y : Req} (h : Live l q x) (h' : Live l q' y) (e : x.serial = y.serial) : q = q' := by
  have a := h.same.1
  have b := h'.same.1
  rw [e] at a
  exact a.symm.trans b
theorem Val.fresh {s : St} (h : Val s) : invokedM s.evs s.serial = false ∧ answeredM s.evs s.serial = false := by
  have hm : ∀ e ∈ s.evs, e.serial ≠ s.serial := fun e he => by
    obtain ⟨i, hi, rfl⟩ := List.getElem_of_mem he
    have := h.evs i hi
    rw [getD_of _ _ hi] at this
    omega
  constructor
  · unfold invokedM
    rw [List.any_eq_false]
    intro e he
    simp [hm e he]
  · unfold answeredM
    rw [List.any_eq_false]
    intro e he
    simp [hm e he]
theorem ringOk_lt {r : Rng} (h : ringOk r = true) : ∀ k, 0 < k → k < r.items.length → (r.items.getD 0 default).serial < (r.items.getD k default).serial
  | 0, h0, _ => absurd h0 (Nat.lt_irrefl 0)
  | k + 1, _, hk => by
    have h2 := ((ringOk_R.1 h).2 (k + 1) hk).2 (by omega)
    rw [show k + 1 - 1 = k by omega] at h2
    by_cases c : k = 0
    · subst c; exact h2
    · have := ringOk_lt h k (by omega) (by omega)
      omega
end Go.Proofs
end

section
open Go Go.Am
namespace Go.Proofs
structure Up (s t : St) (n : Nat) : Prop where
  eq : ∃ rings works evs serial closed, t = { s with rings := rings, works := works, evs := evs, serial := serial, closed := closed }
  rings : t.rings.length = s.rings.length
  works : t.works.length = s.works.length
  evs : t.evs.length ≤ s.evs.length + n
theorem Up.refl (s : St) (n : Nat) : Up s s n := ⟨⟨s.rings, s.works, s.evs, s.serial, s.closed, rfl⟩, rfl, rfl, by omega⟩
theorem Up.cfg {s t : St} {n : Nat} (h : Up s t n) : t.cfg = s.cfg := by obtain ⟨_, _, _, _, _, e⟩ := h.eq; rw [e]
theorem Up.map {s t : St} {n : Nat} (h : Up s t n) : t.map = s.map := by obtain ⟨_, _, _, _, _, e⟩ := h.eq; rw [e]
theorem Up.small {s t : St} {n : Nat} (h : Up s t n) (hs : s.small) (hv : Val t) (he : t.evs.length ≤ 1000000) : t.small := by
  have h1 := h.rings
  have h2 := h.works
  have hi : ∀ i, (t.rings.getD i default).items.length ≤ 1000000 := fun i => by
    by_cases c : i < t.rings.length
    · have := (ringOk_R.1 (hv.queues i c).ring).1
      omega
    · rw [show t.rings.getD i default = default by simp [List.getD, Nat.le_of_not_lt c]]
      exact Nat.zero_le _
  obtain ⟨_, _, _, _, _, e⟩ := h.eq
  have h3 := hs.rings
  have h4 := hs.works
  subst e
  exact ⟨hs.dev, hs.map, hs.shard, hs.live, hs.pend, hs.owner, hs.pins, hs.rets, hs.free, by omega, hi, by omega, hs.ents, hs.recs, he⟩
theorem Val.setRing {s : St} (h : Val s) {q : Nat} {r : Rng} (hq : q < s.rings.length) (h1 : ringOk r = true) (h2 : r.depth = s.cfg.depth) (h3 : ∀ k, k < r.items.length → (r.items.getD k default).serial < s.serial) : Val (s.setRing q r) := by
  refine ⟨{ h.parts with rings := by simp only [St.setRing, List.length_set]; exact h.parts.rings }, fun i hi => ?_, h.evs⟩
  simp only [St.setRing, List.length_set] at hi ⊢
  have := h.queues i hi
  rw [getD_set hq]
  split
  · rename_i e; subst e; exact ⟨h1, h2, this.work, this.req, h3⟩
  · exact this
theorem cmdE_cases {c : Conf} {r : Req} : cmdE c r = 0 ∨ cmdE c r = 1 ∨ cmdE c r = 2 ∨ cmdE c r = 3 := by
  unfold cmdE; split
  · simp
  · split
    · simp
    · split <;> simp
theorem cmdE_kindR {c : Conf} {r : Req} (h : cmdE c r = 0) : 1 ≤ r.kind ∧ r.kind ≤ 4 := by
  unfold cmdE at h
  split at h
  · cases h
  · omega
theorem wrkOk_first {c : Conf} {r : Req} {e : Ent} {d : ByteArray} (h : cmdE c r = 0) : wrkOk c ⟨firstS r.kind, r, e, d⟩ = true := by
  have hk := cmdE_kindR h
  unfold wrkOk firstS
  rw [decide_eq_true_eq]
  right
  refine ⟨h, ?_, ?_, ?_⟩ <;> dsimp only <;> intros <;> split <;> (try split) <;> omega
theorem wrkOk_default {c : Conf} : wrkOk c default = true := by
  unfold wrkOk
  rw [decide_eq_true_eq]
  left; rfl
theorem fits_err {k err : Int} (h : err = 1 ∨ err = 2 ∨ err = 3 ∨ err = 12) : fitsM k err ByteArray.empty = true := by
  unfold fitsM
  rw [if_neg (by omega), if_pos (by omega)]
  simp
theorem begin_keeps {s : St} (h : Val s) (g : Hist s) (hr : s.rings.length ≤ 4) (q : Int) : Val (beginS true s q).1 ∧ Hist (beginS true s q).1 ∧ Up s (beginS true s q).1 1 := by
  unfold beginS
  split
  · rename_i c
    obtain ⟨-, c0, c1, c2⟩ := c
    have hlen : s.rings.length = s.works.length := by have := h.parts.rings; have := h.parts.works; omega
    have hq : q.toNat < s.rings.length := by omega
    have eq : ((q.toNat : Nat) : Int) = q := by omega
    have hQ := h.queues q.toNat hq
    by_cases hn : 0 < (s.rings.getD q.toNat default).items.length
    · obtain ⟨e1, e2⟩ := ringTake_ok hQ.ring hn
      dsimp only
      rw [e1]
      rw [if_pos rfl]
      dsimp only
      generalize hx : (s.rings.getD q.toNat default).items.getD 0 default = x
      have hlt : ∀ k, k < ((s.rings.getD q.toNat default).items.drop 1).length → x.serial < (((s.rings.getD q.toNat default).items.drop 1).getD k default).serial := fun k hk => by
        rw [List.length_drop] at hk
        rw [show ((s.rings.getD q.toNat default).items.drop 1).getD k default = (s.rings.getD q.toNat default).items.getD (1 + k) default by simp only [List.getD, List.getElem?_drop], ← hx]
        exact ringOk_lt hQ.ring (1 + k) (by omega) (by omega)
      have hlive : Live s.evs q x := by rw [← hx]; have := g.rings q.toNat hq 0 hn; rw [eq] at this; exact this
      have hser : x.serial < s.serial := by rw [← hx]; exact hQ.items 0 hn
      have hv1 : Val (s.setRing q.toNat ⟨(s.rings.getD q.toNat default).depth, (s.rings.getD q.toNat default).items.drop 1⟩) := h.setRing hq e2 hQ.depth (ring_getD0 (r := s.rings.getD q.toNat default) (P := fun y => y.serial < s.serial) hQ.items)
      have hdrop : ∀ k, k < ((s.rings.getD q.toNat default).items.drop 1).length → Live s.evs q (((s.rings.getD q.toNat default).items.drop 1).getD k default) := ring_getD0 (r := s.rings.getD q.toNat default) (P := fun y => Live s.evs q y) (fun k hk => by have := g.rings q.toNat hq k hk; rw [eq] at this; exact this)
      split
      · rename_i hc
        refine ⟨hv1.setWork (by simp only [St.setRing]; omega) (wrkOk_first hc) (Or.inr hser), ⟨g.right, fun i hi k hk => ?_, fun i hi hs => ?_, fun i hi hs k hk => ?_⟩, ⟨⟨_, _, _, _, _, rfl⟩, by simp [St.setRing, St.setWork], by simp [St.setRing, St.setWork], by simp [St.setRing, St.setWork]⟩⟩
        · simp only [St.setRing, St.setWork, List.length_set] at hi hk ⊢
          rw [getD_set (l := s.rings) hq] at hk ⊢
          split at hk
          · rename_i e; subst e; rw [if_pos rfl]; rw [eq]; exact hdrop k hk
          · rename_i e; rw [if_neg e]; exact g.rings i hi k hk
        · simp only [St.setRing, St.setWork, List.length_set] at hi hs ⊢
          rw [getD_set (l := s.works) (q := q.toNat) (by omega)] at hs ⊢
          split
          · rename_i e; subst e; rw [eq]; exact hlive
          · rename_i e; rw [if_neg e] at hs; exact g.works i hi hs
        · simp only [St.setRing, St.setWork, List.length_set] at hi hs hk ⊢
          rw [getD_set (l := s.works) (q := q.toNat) (by omega)] at hs ⊢
          rw [getD_set (l := s.rings) hq] at hk ⊢
          by_cases e : i = q.toNat
          · subst e
            rw [if_pos rfl] at hk ⊢
            rw [if_pos rfl]
            have := hlt k hk
            dsimp only
            omega
          · rw [if_neg e] at hk hs ⊢
            rw [if_neg e]
            exact g.apart i hi hs k hk
      · rename_i hc
        have herr : cmdE s.cfg x = 1 ∨ cmdE s.cfg x = 2 ∨ cmdE s.cfg x = 3 := by
          rcases cmdE_cases (c := s.cfg) (r := x) with z | z | z | z
          · exact absurd z hc
          · exact Or.inl z
          · exact Or.inr (Or.inl z)
          · exact Or.inr (Or.inr z)
        generalize cmdE s.cfg x = err at *
        rw [if_pos rfl]
        have hne : ∀ i, i < s.rings.length → i ≠ q.toNat → ∀ y, Live s.evs i y → (tellE true q x err ByteArray.empty).serial ≠ y.serial := fun i hi e y hy z => by
          have := hlive.queue hy z
          omega
        refine ⟨(hv1.setWork (w := default) (by simp only [St.setRing]; omega) wrkOk_default (Or.inl rfl)).addEv hser, ⟨g.right.snoc (right_ret (by omega) hlive (fits_err (by omega))), fun i hi k hk => ?_, fun i hi hs => ?_, fun i hi hs k hk => ?_⟩, ⟨⟨_, _, _, _, _, rfl⟩, by simp [St.setRing, St.setWork, St.addEv], by simp [St.setRing, St.setWork, St.addEv], by simp [St.setRing, St.setWork, St.addEv]⟩⟩
        · simp only [St.setRing, St.setWork, St.addEv, List.length_set] at hi hk ⊢
          rw [getD_set (l := s.rings) hq] at hk ⊢
          split at hk
          · rename_i e; subst e; rw [if_pos rfl]; rw [eq]
            refine (hdrop k hk).snoc (Or.inr ?_)
            have := hlt k hk
            show x.serial ≠ _
            try skip
            omega
          · rename_i e; rw [if_neg e]; have := g.rings i hi k hk; exact this.snoc (Or.inr (hne i hi e _ this))
        · simp only [St.setRing, St.setWork, St.addEv, List.length_set] at hi hs ⊢
          rw [getD_set (l := s.works) (q := q.toNat) (by omega)] at hs ⊢
          split
          · rename_i e; rw [if_pos e] at hs; exact absurd rfl hs
          · rename_i e; rw [if_neg e] at hs; have := g.works i hi hs; exact this.snoc (Or.inr (hne i hi e _ this))
        · simp only [St.setRing, St.setWork, St.addEv, List.length_set] at hi hs hk ⊢
          rw [getD_set (l := s.works) (q := q.toNat) (by omega)] at hs ⊢
          rw [getD_set (l := s.rings) hq] at hk ⊢
          by_cases e : i = q.toNat
          · rw [if_pos e] at hs; exact absurd rfl hs
          · rw [if_neg e] at hk hs ⊢
            rw [if_neg e]
            exact g.apart i hi hs k hk
    · have : (ringTake (s.rings.getD q.toNat default)).2.2 = false := by
        unfold ringTake
        rw [if_neg (by omega)]
      dsimp only
      rw [this, if_neg (by simp)]
      exact ⟨h, g, Up.refl _ _⟩
  · exact ⟨h, g, Up.refl _ _⟩
theorem fits_ok {k : Int} {d : ByteArray} (h1 : k = 1 → d.size = 16) (h2 : k ≠ 1 → d = ByteArray.empty) : fitsM k 0 d = true := by
  unfold fitsM
  rw [if_pos rfl]
  split
  · rename_i c; exact decide_eq_true (h1 c)
  · rename_i c; exact decide_eq_true (h2 c)
theorem answer_keeps {s : St} (h : Val s) (g : Hist s) (hr : s.rings.length ≤ 4) (q err : Int) (d : ByteArray) (hf : fitsM (s.works.getD q.toNat default).req.kind err d = true) : Val (answerS s q err d).1 ∧ Hist (answerS s q err d).1 ∧ Up s (answerS s q err d).1 1 := by
  unfold answerS
  split
  · rename_i c
    obtain ⟨-, c0, c1, c2⟩ := c
    have hlen : s.rings.length = s.works.length := by have := h.parts.rings; have := h.parts.works; omega
    have hq : q.toNat < s.rings.length := by omega
    have eq : ((q.toNat : Nat) : Int) = q := by omega
    have hQ := h.queues q.toNat hq
    have hap := g.apart q.toNat hq c2
    have hlive : Live s.evs q (s.works.getD q.toNat default).req := by have := g.works q.toNat hq c2; rw [eq] at this; exact this
    have hser : (s.works.getD q.toNat default).req.serial < s.serial := hQ.req.resolve_left c2
    have hd : (default : Wrk).state = 0 := rfl
    dsimp only
    generalize (s.works.getD q.toNat default).req = x at *
    have hne : ∀ i, i < s.rings.length → i ≠ q.toNat → ∀ y, Live s.evs i y → (tellE true q x err d).serial ≠ y.serial := fun i hi e y hy z => by
      have := hlive.queue hy z
      omega
    refine ⟨(h.addEv (e := tellE true q x err d) hser).setWork (w := default) (by simp only [St.addEv]; omega) wrkOk_default (Or.inl rfl), ⟨g.right.snoc (right_ret (by omega) hlive hf), fun i hi k hk => ?_, fun i hi hs => ?_, fun i hi hs k hk => ?_⟩, ⟨⟨_, _, _, _, _, rfl⟩, by simp [St.setWork, St.addEv], by simp [St.setWork, St.addEv], by simp [St.setWork, St.addEv]⟩⟩
    · simp only [St.setWork, St.addEv] at hi hk ⊢
      by_cases e : i = q.toNat
      · subst e
        have := g.rings q.toNat hq k hk
        exact this.snoc (Or.inr (fun z => hap k hk z.symm))
      · have := g.rings i hi k hk
        exact this.snoc (Or.inr (hne i hi e _ this))
    · simp only [St.setWork, St.addEv] at hi hs ⊢
      rw [getD_set (l := s.works) (q := q.toNat) (by omega)] at hs ⊢
      split
      · rename_i e; rw [if_pos e] at hs; exact absurd hd hs
      · rename_i e; rw [if_neg e] at hs; have := g.works i hi hs; exact this.snoc (Or.inr (hne i hi e _ this))
    · simp only [St.setWork, St.addEv] at hi hs hk ⊢
      rw [getD_set (l := s.works) (q := q.toNat) (by omega)] at hs ⊢
      by_cases e : i = q.toNat
      · rw [if_pos e] at hs; exact absurd hd hs
      · rw [if_neg e] at hs ⊢
        exact g.apart i hi hs k hk
  · exact ⟨h, g, Up.refl _ _⟩
theorem submit_keeps {s : St} (h : Val s) (g : Hist s) (hr : s.rings.length ≤ 4) (q : Int) (x : Req) : Val (submitS s q x).1 ∧ Hist (submitS s q x).1 ∧ Up s (submitS s q x).1 2 := by
  refine ⟨h.submit q x, ?_⟩
  have hfr := h.fresh
  have hser := h.parts.serial
  unfold submitS
  split
  · split
    · rename_i hq
      split
      · exact ⟨g, Up.refl _ _⟩
      · have hq2 : q.toNat < s.rings.length := by omega
        have eq : ((q.toNat : Nat) : Int) = q := by omega
        have hlen : s.rings.length = s.works.length := by have := h.parts.rings; have := h.parts.works; omega
        dsimp only
        have hinv := right_inv (l := s.evs) (q := q) (x := { x with serial := s.serial }) (by omega) hfr.1 hfr.2 hser.1
        have hnew := Live.new (l := s.evs) (q := q) (x := { x with serial := s.serial }) hfr.1 hfr.2 hser.1
        split
        · have hit : ∀ i, i < s.rings.length → ∀ k, k < (s.rings.getD i default).items.length → s.serial ≠ ((s.rings.getD i default).items.getD k default).serial := fun i hi k hk => by
            have := (h.queues i hi).items k hk; omega
          have hwk : ∀ i, i < s.rings.length → (s.works.getD i default).state ≠ 0 → s.serial ≠ (s.works.getD i default).req.serial := fun i hi hs => by
            have := (h.queues i hi).req.resolve_left hs; omega
          refine ⟨⟨(g.right.snoc hinv).snoc (right_ret (by omega) hnew (fits_err (by omega))), fun i hi k hk => ?_, fun i hi hs => ?_, g.apart⟩, ⟨⟨_, _, _, _, _, rfl⟩, rfl, rfl, by simp [St.addEv]⟩⟩
          · exact ((g.rings i hi k hk).snoc (Or.inl rfl)).snoc (Or.inr (hit i hi k hk))
          · exact ((g.works i hi hs).snoc (Or.inl rfl)).snoc (Or.inr (hwk i hi hs))
        · rcases ringSub_ok (x := { x with serial := s.serial }) (h.queues _ hq2).ring hser.1 (h.queues _ hq2).items with ⟨_, e⟩ | ⟨hlt, e, hok⟩
          · rw [e, if_pos (show (13 : Int) ≠ 0 by decide)]
            exact ⟨g, Up.refl _ _⟩
          · rw [e, if_neg (show ¬ (0 : Int) ≠ 0 by decide)]
            refine ⟨⟨g.right.snoc hinv, fun i hi k hk => ?_, fun i hi hs => ?_, fun i hi hs k hk => ?_⟩, ⟨⟨_, _, _, _, _, rfl⟩, by simp [St.setRing, St.addEv], rfl, by simp [St.addEv, St.setRing]⟩⟩
            · simp only [St.setRing, St.addEv, List.length_set] at hi hk ⊢
              rw [getD_set (l := s.rings) hq2] at hk ⊢
              by_cases e : i = q.toNat
              · rw [if_pos e] at hk ⊢
                simp only [List.length_append, List.length_cons, List.length_nil] at hk ⊢
                rw [getD_snoc hk]
                split
                · subst e; rw [eq]; exact hnew
                · subst e; exact (g.rings _ hi k (by omega)).snoc (Or.inl rfl)
              · rw [if_neg e] at hk ⊢
                exact (g.rings i hi k hk).snoc (Or.inl rfl)
            · simp only [St.setRing, St.addEv, List.length_set] at hi hs ⊢
              exact (g.works i hi hs).snoc (Or.inl rfl)
            · simp only [St.setRing, St.addEv, List.length_set] at hi hs hk ⊢
              rw [getD_set (l := s.rings) hq2] at hk ⊢
              by_cases e : i = q.toNat
              · rw [if_pos e] at hk ⊢
                simp only [List.length_append, List.length_cons, List.length_nil] at hk ⊢
                rw [getD_snoc hk]
                split
                · have := (h.queues i hi).req.resolve_left hs
                  show s.serial ≠ _
                  omega
                · subst e; exact g.apart _ hi hs k (by omega)
              · rw [if_neg e] at hk ⊢
                exact g.apart i hi hs k hk
    · exact ⟨g, Up.refl _ _⟩
  · exact ⟨g, Up.refl _ _⟩
theorem closed_keeps {s : St} {b : Bool} (h : Val s) (g : Hist s) : Val { s with closed := b } ∧ Hist { s with closed := b } ∧ Up s { s with closed := b } 0 :=
  ⟨⟨{ h.parts with }, h.queues, h.evs⟩, ⟨g.right, g.rings, g.works, g.apart⟩, ⟨⟨_, _, _, _, _, rfl⟩, rfl, rfl, Nat.le_refl _⟩⟩
theorem Up.trans {s t u : St} {n m : Nat} (h : Up s t n) (k : Up t u m) : Up s u (n + m) := by
  refine ⟨?_, k.rings.trans h.rings, k.works.trans h.works, by have := h.evs; have := k.evs; omega⟩
  obtain ⟨_, _, _, _, _, e⟩ := h.eq
  obtain ⟨_, _, _, _, _, e'⟩ := k.eq
  subst e
  exact ⟨_, _, _, _, _, e'⟩
end Go.Proofs
end

section
open Go Go.Am
namespace Go.Proofs
theorem getD_repI {α : Type} [Inhabited α] {n i : Nat} {d : α} (h : i < n) : (List.replicate n d).getD i default = d := by simp [List.getD, h]
theorem mapOk_rep {n : Nat} (h : 1 ≤ n ∧ n ≤ 8) : mapOk (List.replicate n []) = true := by
  unfold mapOk
  simp only [List.length_replicate, Bool.and_eq_true, decide_eq_true_eq]
  refine ⟨h, fun i hi => ?_⟩
  rw [getD_repI hi]
  unfold shardOk inStripe
  simp only [decide_eq_true_eq]
  exact ⟨fun i hi => absurd hi (Nat.not_lt_zero _), fun i hi => absurd hi (Nat.not_lt_zero _)⟩
theorem freeTo_getD {c : Conf} {k i : Nat} (h : i < k) : (freeTo c k).getD i default = 2 * slotN c + (i : Nat) := by
  simp [freeTo, List.getD, h]
theorem counts_rep {n : Nat} (h : 1 ≤ n ∧ n ≤ 32) : countsOk (List.replicate n 0) (List.replicate n 0) = true := by
  unfold countsOk
  refine (Bool.and_eq_true _ _).mpr ⟨decide_eq_true ⟨rfl, by rw [List.length_replicate]; omega, by rw [List.length_replicate]; omega⟩, decide_eq_true fun i hi => ?_⟩
  rw [List.length_replicate] at hi
  rw [getD_repI hi]
  decide
theorem epochs_rep {n : Nat} (h : 1 ≤ n ∧ n ≤ 4) : epochsOk 0 (List.replicate n (-1)) [] = true := by
  unfold epochsOk
  refine (Bool.and_eq_true _ _).mpr ⟨decide_eq_true (by simp only [List.length_replicate]; omega), (Bool.and_eq_true _ _).mpr ⟨decide_eq_true fun i hi => ?_, decide_eq_true fun i hi => absurd hi (Nat.not_lt_zero _)⟩⟩
  rw [List.length_replicate] at hi
  rw [getD_repI hi]
  exact Or.inl rfl
theorem newSt_val {c : Conf} (h : confE c = 0) : Val (newSt c) := by
  have hr := confR_iff.1 (confE_r h).1
  have hd := data_range (confE_r h).1
  have h6 := (confE_r h).2.1
  have hs := slot_range (confE_r h).1
  have he := newE_ok h
  have hdn : dataN c = c.zones - 2 * slotN c := rfl
  have hdev : newD c.zones c.size 3 3 = newX c.zones c.size 3 3 := by unfold newD; rw [if_pos he]
  have hck : check (newX c.zones c.size 3 3) = 0 := by
    unfold newE at he
    rw [if_pos (decide_eq_true (by omega))] at he
    exact he
  refine ⟨⟨h, ?_, ?_, ?_, ?_, ?_, ?_, ?_, ?_, ?_, ?_, ?_, ?_, ?_, ?_, ?_, ?_, ?_⟩, fun i hi => ?_, fun i hi => absurd hi (Nat.not_lt_zero _)⟩
  · show check (newD c.zones c.size 3 3) = 0
    rw [hdev]; exact hck
  · show ((newD c.zones c.size 3 3).zones.length : Int) = c.zones
    rw [hdev]; simp only [newX, List.length_replicate]; omega
  · show (newD c.zones c.size 3 3).size = c.size
    rw [hdev]; rfl
  · exact mapOk_rep (by omega)
  · simp only [newSt, List.length_replicate]; omega
  · simp only [newSt, blocksIn, decide_eq_true_eq, List.length_replicate]
    intro i hi k hk
    rw [getD_repI hi] at hk
    exact absurd hk (Nat.not_lt_zero _)
  · exact counts_rep (by omega)
  · simp only [newSt, List.length_replicate]; omega
  · simp only [newSt, locksOk, List.length_replicate, Bool.and_eq_true, decide_eq_true_eq]
    refine ⟨by omega, fun i hi => ?_⟩
    rw [getD_repI hi]; omega
  · simp only [newSt, List.length_replicate]; omega
  · exact epochs_rep (by omega)
  · simp only [newSt, List.length_replicate]; omega
  · refine (Bool.and_eq_true _ _).mpr ⟨decide_eq_true h, (Bool.and_eq_true _ _).mpr ⟨decide_eq_true fun i hi => ?_, (Bool.and_eq_true _ _).mpr ⟨decide_eq_true (Or.inl rfl), (Bool.and_eq_true _ _).mpr ⟨decide_eq_true (Or.inl rfl), decide_eq_true (Or.inl rfl)⟩⟩⟩⟩
    have hi' : i < (dataN c).toNat := by rw [← freeTo_len c (dataN c).toNat]; exact hi
    show isDataM c ((freeTo c (dataN c).toNat).getD i default) = true ∧ (0 < i → (freeTo c (dataN c).toNat).getD (i - 1) default < (freeTo c (dataN c).toNat).getD i default)
    rw [freeTo_getD hi']
    refine ⟨decide_eq_true ⟨h, by omega, by omega⟩, fun h0 => ?_⟩
    rw [freeTo_getD (by omega)]
    omega
  · simp only [newSt, List.length_replicate]; omega
  · simp only [newSt, List.length_replicate]; omega
  · simp only [newSt]; omega
  · simp only [newSt]; omega
  · simp only [newSt, List.length_replicate] at hi ⊢
    rw [getD_repI hi, getD_repI hi]
    refine ⟨?_, rfl, wrkOk_default, Or.inl rfl, fun k hk => absurd hk (Nat.not_lt_zero _)⟩
    rw [ringOk_R]
    refine ⟨⟨by show 1 ≤ c.depth; omega, by show c.depth ≤ 8; omega, by show ((0 : Nat) : Int) ≤ c.depth; omega⟩, fun i hi => absurd hi (Nat.not_lt_zero _)⟩
theorem newSt_hist {c : Conf} : Hist (newSt c) := by
  refine ⟨fun k hk => absurd hk (Nat.not_lt_zero _), fun i hi k hk => ?_, fun i hi hs => ?_, fun i hi hs => ?_⟩
  · simp only [newSt, List.length_replicate] at hi hk
    rw [getD_repI hi] at hk
    exact absurd hk (Nat.not_lt_zero _)
  · simp only [newSt, List.length_replicate] at hi hs
    rw [getD_repI hi] at hs
    exact absurd rfl hs
  · simp only [newSt, List.length_replicate] at hi hs
    rw [getD_repI hi] at hs
    exact absurd rfl hs
end Go.Proofs
end
