/- Contracts, lemmas; no condition. -/
import Derived.Test.YtmollgldghpbkaaGreatModCV
import Derived.Test.YtmollgldghpbkaaGreatCtIV
set_option linter.all false
section
open Go Go.Am
namespace Go.Proofs
set_option maxRecDepth 20000
theorem Q1 {α : Type} {l : List α} {q i : Nat} {x d : α} (hq : q < l.length) : (l.set q x).getD i d = if i = q then x else l.getD i d := by
 simp only [List.getD, List.getElem?_set]
 by_cases h : q = i
 ·subst h; simp [hq]
 ·rw [if_neg h, if_neg (fun e => h e.symm)]
theorem Qaq {α : Type} {l : List α} {i : Nat} {x d : α} (hi : i < l.length + 1) : (l ++ [x]).getD i d = if i = l.length then x else l.getD i d := by
 simp only [List.getD]
 by_cases h : i = l.length
 ·subst h; simp
 ·rw [if_neg h, List.getElem?_append_left om]
structure QOk (c : Conf) (serial : Int) (r : Rng) (w : Wrk) : Prop where
 ring : QX r = true
 depth : r.depth = c.depth
 work : Qas c w = true
 req : w.state = 0 ∨ w.req.serial < serial
 items : ∀ k, k < r.items.length → (r.items.getD k default).serial < serial
theorem QOk.later {c : Conf} {n n' : Int} {r : Rng} {w : Wrk} (h : QOk c n r w) (hn : n ≤ n') : QOk c n' r w :=
 ⟨h.ring, h.depth, h.work, h.req.imp id fun k => by omega, fun k hk => by have := h.items k hk; omega⟩
theorem Qsj {s : St} {i : Nat} : QdQ s i = true ↔ QOk s.cfg s.serial (s.rings.getD i default) (s.works.getD i default) := by
 unfold QdQ
 simp only [Bool.and_eq_true, decide_eq_true_eq]
 exact ⟨fun ⟨a, b, c, d, e⟩ => ⟨a, b, c, d, e⟩, fun ⟨a, b, c, d, e⟩ => ⟨a, b, c, d, e⟩⟩
structure Parts (s : St) : Prop where
 cfg : Qw s.cfg = 0
 dev : check s.dev = 0
 zones : (s.dev.zones.length : Int) = s.cfg.zones
 size : s.dev.size = s.cfg.size
 map : Qu s.map = true
 shards : (s.map.length : Int) = s.cfg.shards
 blocks : QaE s.map s.cfg.blocks = true
 counts : QC s.live s.pend = true
 live : (s.live.length : Int) = s.cfg.zones
 locks : Qaj s.owner = true
 stripes : (s.owner.length : Int) = s.cfg.shards
 epochs : QA s.glob s.pins s.rets = true
 pins : (s.pins.length : Int) = s.cfg.queues
 pool : poolOk s.cfg s.free s.host s.lane = true
 rings : (s.rings.length : Int) = s.cfg.queues
 works : (s.works.length : Int) = s.cfg.queues
 next : 1 ≤ s.next ∧ s.next ≤ 1099511627776
 serial : 0 ≤ s.serial ∧ s.serial ≤ 1099511627776
theorem QtW {s : St} : QaH s = true ↔ Parts s := by
 unfold QaH
 simp only [Bool.and_eq_true, decide_eq_true_eq]
 constructor
 ·rintro ⟨a1, a2, ⟨a3, a4⟩, a5, a6, a7, a8, a9, a10, a11, a12, a13, a14, ⟨a15, a16⟩, a17, a18, a19, a20⟩
  exact ⟨a1, a2, a3, a4, a5, a6, a7, a8, a9, a10, a11, a12, a13, a14, a15, a16, ⟨a17, a18⟩, ⟨a19, a20⟩⟩
 ·rintro ⟨a1, a2, a3, a4, a5, a6, a7, a8, a9, a10, a11, a12, a13, a14, a15, a16, ⟨a17, a18⟩, ⟨a19, a20⟩⟩
  exact ⟨a1, a2, ⟨a3, a4⟩, a5, a6, a7, a8, a9, a10, a11, a12, a13, a14, ⟨a15, a16⟩, a17, a18, a19, a20⟩
structure Val (s : St) : Prop where
 parts : Parts s
 queues : ∀ i, i < s.rings.length → QOk s.cfg s.serial (s.rings.getD i default) (s.works.getD i default)
 evs : ∀ i, i < s.evs.length → (s.evs.getD i default).serial < s.serial
theorem validS_V {s : St} : Qz s = true ↔ Val s := by
 unfold Qz
 simp only [Bool.and_eq_true, decide_eq_true_eq, Qsj, QtW]
 exact ⟨fun ⟨a, b, c⟩ => ⟨a, b, c⟩, fun ⟨a, b, c⟩ => ⟨a, b, c⟩⟩
theorem ringOk_R {r : Rng} : QX r = true ↔ (1 ≤ r.depth ∧ r.depth ≤ 8 ∧ (r.items.length : Int) ≤ r.depth) ∧ ∀ i, i < r.items.length → 0 ≤ (r.items.getD i default).serial ∧ (0 < i → (r.items.getD (i - 1) default).serial < (r.items.getD i default).serial) := by
 unfold QX
 rw [Bool.and_eq_true, decide_eq_true_eq, decide_eq_true_eq]
theorem Qjf {r : Rng} {x : Req} (h : QX r = true) (h0 : 0 ≤ x.serial) (hx : ∀ k, k < r.items.length → (r.items.getD k default).serial < x.serial) :
  ((r.items.length : Int) = r.depth ∧ QU r x = (r, 13)) ∨ ((r.items.length : Int) < r.depth ∧ QU r x = (⟨r.depth, r.items ++ [x]⟩, 0) ∧ QX ⟨r.depth, r.items ++ [x]⟩ = true) := by
 have hr := ringOk_R.1 h
 by_cases c : (r.items.length : Int) = r.depth
 ·left
  exact ⟨c, by unfold QU; rw [if_pos h, if_pos c]⟩
 ·right
  refine ⟨om, ?_, ?_⟩
  ·unfold QU
   rw [if_pos h, if_neg c, if_neg]
   rintro (q | ⟨q1, q2⟩)
   ·omega
   ·have := hx (r.items.length - 1) om; omega
  ·rw [ringOk_R]
   simp only [List.length_append, List.length_cons, List.length_nil]
   refine ⟨om, fun i hi => ?_⟩
   rw [Qaq hi]
   by_cases e : i = r.items.length
   ·rw [if_pos e]
    refine ⟨h0, fun hi0 => ?_⟩
    rw [Qaq om, if_neg om]
    exact hx _ om
   ·rw [if_neg e]
    have := hr.2 i om
    refine ⟨this.1, fun hi0 => ?_⟩
    rw [Qaq om, if_neg om]
    exact this.2 hi0
theorem Qo3 {r : Rng} (h : QX r = true) (hn : 0 < r.items.length) : Qah r = (⟨r.depth, r.items.drop 1⟩, r.items.getD 0 default, true) ∧ QX ⟨r.depth, r.items.drop 1⟩ = true := by
 have hr := ringOk_R.1 h
 refine ⟨if_pos ⟨h, hn⟩, ?_⟩
 rw [ringOk_R]
 have hd : ∀ i, (r.items.drop 1).getD i default = r.items.getD (1 + i) default := fun i => by simp only [List.getD, List.getElem?_drop]
 simp only [List.length_drop]
 refine ⟨om, fun i hi => ?_⟩
 rw [hd, hd]
 have := hr.2 (1 + i) om
 refine ⟨this.1, fun hi0 => ?_⟩
 have h2 := this.2 om
 rw [show 1 + i - 1 = 1 + (i - 1) by omega] at h2
 exact h2
theorem Qj5 {r : Rng} {P : Req → Prop} (h : ∀ k, k < r.items.length → P (r.items.getD k default)) : ∀ k, k < (r.items.drop 1).length → P ((r.items.drop 1).getD k default) := fun k hk => by
 rw [List.length_drop] at hk
 rw [show (r.items.drop 1).getD k default = r.items.getD (1 + k) default by simp only [List.getD, List.getElem?_drop]]
 exact h _ om
theorem Val.submit {s : St} (h : Val s) (q : Int) (x : Req) : Val (QI s q x).1 := by
 unfold QI
 rw [if_pos (validS_V.2 h)]
 split
 ·rename_i hq
  split
  ·exact h
  ·rename_i hl
   have hser := h.parts.serial
   by_cases hc : s.closed = true
   ·simp only [if_pos hc]
    refine ⟨{ h.parts with serial := ⟨by show 0 ≤ s.serial + 1; omega, by show s.serial + 1 ≤ _; omega⟩ }, fun i hi => ?_, fun i hi => ?_⟩
    ·exact (h.queues i hi).later (show s.serial ≤ s.serial + 1 by omega)
    ·simp only [St.addEv, List.length_append, List.length_cons, List.length_nil] at hi ⊢
     rw [Qaq (by simp; omega)]
     split
     ·show s.serial < s.serial + 1; omega
     ·rename_i hne
      simp only [List.length_append, List.length_cons, List.length_nil] at hne
      rw [Qaq om]
      split
      ·show s.serial < s.serial + 1; omega
      ·have := h.evs i om
       show _ < s.serial + 1; omega
   ·simp only [if_neg hc]
    have hq2 : q.toNat < s.rings.length := by omega
    have hQ := h.queues q.toNat hq2
    rcases Qjf (x := { x with serial := s.serial }) hQ.ring hser.1 hQ.items with ⟨_, e⟩ | ⟨hlt, e, hok⟩
    ·rw [e]; rw [if_pos (show (13 : Int) ≠ 0 by decide)]; exact h
    ·rw [e]
     rw [if_neg (show ¬ (0 : Int) ≠ 0 by decide)]
     refine ⟨{ h.parts with serial := ⟨by show 0 ≤ s.serial + 1; omega, by show s.serial + 1 ≤ _; omega⟩, rings := by simp only [St.addEv, St.setRing, List.length_set]; exact h.parts.rings }, fun i hi => ?_, fun i hi => ?_⟩
     ·simp only [St.addEv, St.setRing, List.length_set] at hi ⊢
      have := h.queues i hi
      rw [Q1 hq2]
      split
      ·rename_i ei
       subst ei
       refine ⟨hok, hQ.depth, hQ.work, hQ.req.imp id fun k => by omega, fun k hk => ?_⟩
       simp only [List.length_append, List.length_cons, List.length_nil] at hk
       rw [Qaq hk]
       split
       ·show s.serial < s.serial + 1; omega
       ·have := hQ.items k om; omega
      ·exact this.later om
     ·simp only [St.addEv, St.setRing, List.length_append, List.length_cons, List.length_nil] at hi ⊢
      rw [Qaq hi]
      split
      ·show s.serial < s.serial + 1; omega
      ·have := h.evs i om; omega
 ·exact h
theorem Val.setWork {s : St} (h : Val s) {q : Nat} {w : Wrk} (hq : q < s.works.length) (h1 : Qas s.cfg w = true) (h2 : w.state = 0 ∨ w.req.serial < s.serial) : Val (s.setWork q w) := by
 refine ⟨{ h.parts with works := by simp only [St.setWork, List.length_set]; exact h.parts.works }, fun i hi => ?_, h.evs⟩
 have := h.queues i hi
 simp only [St.setWork]
 rw [Q1 hq]
 split
 ·rename_i e; subst e; exact ⟨this.ring, this.depth, h1, h2, this.items⟩
 ·exact this
theorem Val.addEv {s : St} (h : Val s) {e : Evt} (he : e.serial < s.serial) : Val (s.addEv e) := by
 refine ⟨{ h.parts with }, h.queues, fun i hi => ?_⟩
 simp only [St.addEv, List.length_append, List.length_cons, List.length_nil] at hi ⊢
 rw [Qaq hi]
 split
 ·exact he
 ·exact h.evs i om
def evP (r : Bool) (s : Int) (e : Evt) : Bool := decide (e.ret = r ∧ e.serial = s)
def Q3 (l : List Evt) (r : Bool) (s : Int) : Int := if l.any (evP r s) = true then (l.findIdx (evP r s) : Nat) else -1
theorem QfO (l : List Evt) (n : Int) : l.any (evP false n) = Q4 l n := by
 unfold Q4
 congr 1
 funext e
 unfold evP
 cases e.ret <;> simp
theorem Qpn (l : List Evt) (n : Int) : l.any (evP true n) = Q7 l n := by
 unfold Q7
 congr 1
 funext e
 unfold evP
 cases e.ret <;> simp
theorem Qel (l : List Evt) (r : Bool) (s : Int) : decide (Q3 l r s < 0) = !l.any (evP r s) := by
 unfold Q3
 split
 ·rename_i h; rw [h]; exact decide_eq_false om
 ·rename_i h; rw [Qg h]; rfl
theorem Qrb (l : List Evt) (r : Bool) (s : Int) : decide (Q3 l r s ≥ 0) = l.any (evP r s) := by
 unfold Q3
 split
 ·rename_i h; rw [h]; exact decide_eq_true om
 ·rename_i h; rw [Qg h]; rfl
theorem QsS (l : List Evt) (r : Bool) (s : Int) : Q3 l r s < l.length := by
 unfold Q3
 split
 ·rename_i h
  rw [List.any_eq_true] at h
  have := List.findIdx_lt_length_of_exists h
  omega
 ·omega
theorem Qqq (l : List Evt) (s : Int) (hl : l.length ≤ 1000000) : PS 68 [.c (evC l), .c (.int .i64 s)] (.c (.int .i64 (Q3 l false s))) := by
 refine PSpec.rm ?_
 refine ov0 hΓ Tryz.func68 28 0 [.tmp 4] Tryz.ntmps68 Tryz.results68 ?_
 refine Lp.mkK hΓ (ι := Nat) [0, 1] (fun k => [(5, .c (.int .i64 k))]) (fun k => []) (fun k => k ≤ l.length ∧ ∀ j, j < k → evP false s (l.getD j default) = false) (fun k => l.length - k) 0 ⟨Nat.zero_le _, fun j hj => absurd hj (Nat.not_lt_zero _)⟩ ?_ ?_
 ·exact Mv.k0
 ·intro k ⟨hk, h0⟩
  refine Go1 fun _h=>?_
  refine Br.of (fun h1=>Go0 ?_) (fun h1=>Go0 ?_)
  ·have w0 := Qa (↑k + 1) om om
   rcases Bool.eq_false_or_eq_true (evP false s (l.getD k default)) with hb | hb
   ·have hb' : (l.getD k default).ret = false ∧ (l.getD k default).serial = s := of_decide_eq_true hb
    refine Br.yes (by simp [-List.getD_eq_getElem?_getD, hb'.1, hb'.2]) ?_
    refine Go0 ?_
    obtain ⟨q1, q2⟩ := Qdh (p := evP false s) om hb h0
    rw [show Q3 l false s = (k : Int) by unfold Q3; rw [if_pos q1, q2]]
    exact RM.i0
   ·have hb' : ¬ ((l.getD k default).ret = false ∧ (l.getD k default).serial = s) := of_decide_eq_false hb
    refine Br.no (Bool.eq_false_iff.2 fun e => hb' (by simpa [-List.getD_eq_getElem?_getD] using e)) ?_
    refine Go0 ?_
    refine ⟨k + 1, ⟨om, QD h0 hb⟩, om, ?_⟩
    exact Mv.k0
  ·rw [show Q3 l false s = -1 by unfold Q3; rw [if_neg (QcF (fun j hj => h0 j om))]]
   exact RM.i0
theorem Qrc : HB 68 := hB Tryz.func68
theorem Qq9 (l : List Evt) (s : Int) (hl : l.length ≤ 1000000) : PS 69 [.c (evC l), .c (.int .i64 s)] (.c (.int .i64 (Q3 l true s))) := by
 refine PSpec.rm ?_
 refine ov0 hΓ Tryz.func69 27 0 [.tmp 4] Tryz.ntmps69 Tryz.results69 ?_
 refine Lp.mkK hΓ (ι := Nat) [0, 1] (fun k => [(5, .c (.int .i64 k))]) (fun k => []) (fun k => k ≤ l.length ∧ ∀ j, j < k → evP true s (l.getD j default) = false) (fun k => l.length - k) 0 ⟨Nat.zero_le _, fun j hj => absurd hj (Nat.not_lt_zero _)⟩ ?_ ?_
 ·exact Mv.k0
 ·intro k ⟨hk, h0⟩
  refine Go1 fun _h=>?_
  refine Br.of (fun h1=>Go0 ?_) (fun h1=>Go0 ?_)
  ·have w0 := Qa (↑k + 1) om om
   rcases Bool.eq_false_or_eq_true (evP true s (l.getD k default)) with hb | hb
   ·have hb' : (l.getD k default).ret = true ∧ (l.getD k default).serial = s := of_decide_eq_true hb
    refine Br.yes (by simp [-List.getD_eq_getElem?_getD, hb'.1, hb'.2]) ?_
    refine Go0 ?_
    obtain ⟨q1, q2⟩ := Qdh (p := evP true s) om hb h0
    rw [show Q3 l true s = (k : Int) by unfold Q3; rw [if_pos q1, q2]]
    exact RM.i0
   ·have hb' : ¬ ((l.getD k default).ret = true ∧ (l.getD k default).serial = s) := of_decide_eq_false hb
    refine Br.no (Bool.eq_false_iff.2 fun e => hb' (by simpa [-List.getD_eq_getElem?_getD] using e)) ?_
    refine Go0 ?_
    refine ⟨k + 1, ⟨om, QD h0 hb⟩, om, ?_⟩
    exact Mv.k0
  ·rw [show Q3 l true s = -1 by unfold Q3; rw [if_neg (QcF (fun j hj => h0 j om))]]
   exact RM.i0
theorem Qqa : HB 69 := hB Tryz.func69
theorem openTo_cond {l : List Evt} {k : Nat} : Qab l (k + 1) = if (l.getD k default).ret = false ∧ Q7 l (l.getD k default).serial = false ∧ Q4 (l.take k) (l.getD k default).serial = false then Qab l k ++ [(l.getD k default).serial] else Qab l k := rfl
theorem WC.evT {ρ : Nat → Nat} {n : Nat} {l : List Evt} {k : Nat} {t : Bool} (h : k ≤ l.length) : WC ρ n (.isl 8 (k : Int).toNat (evG l) t) (evC (l.take k)) := by
 have e : (k : Int).toNat = k := by simp
 rw [e]
 refine WC.isl (by rw [List.length_take]; omega) (fun i hi j _ => ?_) (fun e => by cases e)
 unfold evG rowG
 congr 1
 simp [List.getD, hi]
set_option maxHeartbeats 4000000 in
theorem Qkh (l : List Evt) (hl : l.length ≤ 1000000) : PS 29 [.c (evC l)] (.c (Qi (Qcu l))) := by
 refine PSpec.rm ?_
 refine ov0 hΓ Tryz.func29 48 0 [.tmp 2] Tryz.ntmps29 Tryz.results29 ?_
 refine Lp.reserve 3 1 (Qam .i64 []) 3 rfl ?_
 refine Lp.mkK hΓ (ι := Nat) [0, 2] (fun k => [(4, .c (.int .i64 k)), (3, .c (.sl 0 1 (Qab l k).length (Qab l k).length false))]) (fun k => [.arr 3 1 (Qab l k).length (Qam .i64 (Qab l k))]) (fun k => k ≤ l.length) (fun i => l.length - i) 0 (Nat.zero_le _) ?_ ?_
 ·exact Mv.k0
 ·intro q hq
  have hlq := QdI l q
  refine Go1 fun _h=>?_
  refine Br.of (fun h3=>Go0 ?_) (fun h3=>Go0 ?_)
  ·refine Dr.mk hΓ hMix (by kernel_rfl) (Go0 ?_)
   have hq' : q ≤ l.length := hq
   have w0 := Qa (↑q + 1) om om
   refine CallP.mkGW Qrc (fun _ => Qqq (l.take q) (l.getD q default).serial (by rw [List.length_take]; omega)) (by (first|exact wb0|refine wb1 ?_|refine wb2 ?_ ?_|refine wb3 ?_ ?_ ?_|refine wb4 ?_ ?_ ?_ ?_); exact WC.evT hq') rfl ?_
   refine Go0 ?_
   refine CallP.autoG Qqa (fun _ => Qq9 l (l.getD q default).serial hl ) (Go0 ?_)
   by_cases c : (l.getD q default).ret = false ∧ Q7 l (l.getD q default).serial = false ∧ Q4 (l.take q) (l.getD q default).serial = false
   ·have hto : Qab l (q + 1) = Qab l q ++ [(l.getD q default).serial] := openTo_cond.trans (if_pos c)
    have hl2 : (Qab l (q + 1)).length = (Qab l q).length + 1 := by rw [hto]; simp
    refine Br.yes (by
     have e1 := Qel (l.take q) false (l.getD q default).serial
     have e2 := Qel l true (l.getD q default).serial
     rw [QfO, c.2.2] at e1
     rw [Qpn, c.2.1] at e2
     simp [-List.getD_eq_getElem?_getD, c.1] at e1 e2 ⊢
     exact ⟨e1, e2⟩) ?_
    refine Go0 ?_
    refine ⟨q + 1, om, om, ?_⟩
    refine Mv.k1 ?_
    intro i hi j hj
    rw [hto]
    exact WC.eq (Qdg rfl om hj) rfl
   ·have hto : Qab l (q + 1) = Qab l q := openTo_cond.trans (if_neg c)
    refine Br.no (Bool.eq_false_iff.2 fun e => c (by
     have e1 := Qel (l.take q) false (l.getD q default).serial
     have e2 := Qel l true (l.getD q default).serial
     rw [QfO] at e1
     rw [Qpn] at e2
     simp [-List.getD_eq_getElem?_getD] at e
     rw [decide_eq_true e.1.2] at e1
     rw [decide_eq_true e.2] at e2
     exact ⟨e.1.1, by simpa using e2.symm, by simpa using e1.symm⟩)) ?_
    refine Go0 ?_
    refine ⟨q + 1, om, om, ?_⟩
    rw [hto]
    exact Mv.k0
  ·have : q = l.length := by omega
   subst this
   exact RM.allC (Fw.sl rfl rfl (fun i _ j _ => Fw.same rfl) (fun e => by cases e))
theorem QkB : HB 29 := hB Tryz.func29
def Qmo (kind err : Int) (rdata : ByteArray) : Bool :=
 if err = 0 then (if kind = 1 then decide (rdata.size = 16) else decide (rdata = ByteArray.empty))
 else if err = 7 ∨ err = 1 ∨ err = 2 ∨ err = 3 ∨ err = 12 then decide (rdata = ByteArray.empty) else false
def Qf8 (p : List Evt) (x : Evt) : Bool :=
 decide (0 ≤ x.queue ∧ x.queue < 4 ∧ 0 ≤ x.serial) &&
 (if x.ret = false then !Q4 p x.serial && !Q7 p x.serial && decide (x.err = 0 ∧ x.rdata = ByteArray.empty)
 else Q4 p x.serial && !Q7 p x.serial && decide ((p.getD (Q3 p false x.serial).toNat default).queue = x.queue ∧ (p.getD (Q3 p false x.serial).toNat default).kind = x.kind ∧ (p.getD (Q3 p false x.serial).toNat default).block = x.block ∧ (p.getD (Q3 p false x.serial).toNat default).data = x.data) && Qmo x.kind x.err x.rdata)
theorem QgX {l : List Evt} {e : Evt} {n : Int} : Q4 (l ++ [e]) n = (Q4 l n || (!e.ret && decide (e.serial = n))) := by
 unfold Q4; simp
theorem Qf1 {l : List Evt} {e : Evt} {n : Int} : Q7 (l ++ [e]) n = (Q7 l n || (e.ret && decide (e.serial = n))) := by
 unfold Q7; simp
theorem QoF {l : List Evt} {e : Evt} {n : Int} (h : Q4 l n = true) : Q3 (l ++ [e]) false n = Q3 l false n := by
 rw [← QfO] at h
 unfold Q3
 rw [if_pos h, if_pos (by rw [List.any_append, h]; rfl), List.findIdx_append, if_pos]
 rw [List.any_eq_true] at h
 exact List.findIdx_lt_length_of_exists h
theorem Qrz {l : List Evt} {e : Evt} {n : Int} (h : Q4 l n = false) (h1 : e.ret = false) (h2 : e.serial = n) : Q3 (l ++ [e]) false n = l.length := by
 have he : evP false n e = true := decide_eq_true ⟨h1, h2⟩
 rw [← QfO] at h
 unfold Q3
 have hn : ¬ l.findIdx (evP false n) < l.length := fun q => by
  have := List.findIdx_getElem (w := q)
  have h3 : l.any (evP false n) = true := List.any_eq_true.2 ⟨_, List.getElem_mem q, this⟩
  rw [h] at h3; cases h3
 rw [if_pos (by rw [List.any_append]; simp [he]), List.findIdx_append, if_neg hn]
 have : [e].findIdx (evP false n) = 0 := by simp [List.findIdx_cons, he]
 rw [this]
 simp
structure Live (l : List Evt) (q : Int) (x : Req) : Prop where
 inv : Q4 l x.serial = true
 ans : Q7 l x.serial = false
 same : (l.getD (Q3 l false x.serial).toNat default).queue = q ∧ (l.getD (Q3 l false x.serial).toNat default).kind = x.kind ∧ (l.getD (Q3 l false x.serial).toNat default).block = x.block ∧ (l.getD (Q3 l false x.serial).toNat default).data = x.data
 pos : 0 ≤ x.serial
theorem QnC {l : List Evt} {n : Int} (h : Q4 l n = true) : (Q3 l false n).toNat < l.length := by
 have h1 := QsS l false n
 have h2 := Qrb l false n
 rw [QfO, h] at h2
 have := of_decide_eq_true h2
 omega
theorem Live.snoc {l : List Evt} {q : Int} {x : Req} {e : Evt} (h : Live l q x) (he : e.ret = false ∨ e.serial ≠ x.serial) : Live (l ++ [e]) q x := by
 have hr := QnC h.inv
 refine ⟨by rw [QgX, h.inv]; rfl, ?_, ?_, h.pos⟩
 ·rw [Qf1, h.ans]
  rcases he with he | he
  ·rw [he]; rfl
  ·rw [decide_eq_false he]; simp
 ·rw [QoF h.inv, Qaq om, if_neg om]
  exact h.same
theorem Live.new {l : List Evt} {q : Int} {x : Req} (h1 : Q4 l x.serial = false) (h2 : Q7 l x.serial = false) (h3 : 0 ≤ x.serial) : Live (l ++ [QN false q x 0 ByteArray.empty]) q x := by
 refine ⟨by rw [QgX]; simp [QN], by rw [Qf1, h2]; simp [QN], ?_, h3⟩
 rw [Qrz h1 rfl rfl]
 rw [show ((l.length : Nat) : Int).toNat = l.length from rfl, Qaq om, if_pos rfl]
 exact ⟨rfl, rfl, rfl, rfl⟩
theorem Qr1 {l : List Evt} {q : Int} {x : Req} (hq : 0 ≤ q ∧ q < 4) (h1 : Q4 l x.serial = false) (h2 : Q7 l x.serial = false) (h3 : 0 ≤ x.serial) : Qf8 l (QN false q x 0 ByteArray.empty) = true := by
 unfold Qf8 QN
 dsimp only
 rw [decide_eq_true (show 0 ≤ q ∧ q < 4 ∧ 0 ≤ x.serial by omega), if_pos rfl, h1, h2]
 simp
theorem Qls {l : List Evt} {q : Int} {x : Req} {err : Int} {d : ByteArray} (hq : 0 ≤ q ∧ q < 4) (h : Live l q x) (hf : Qmo x.kind err d = true) : Qf8 l (QN true q x err d) = true := by
 have h3 := h.pos
 unfold Qf8 QN
 dsimp only
 rw [decide_eq_true (show 0 ≤ q ∧ q < 4 ∧ 0 ≤ x.serial by omega), if_neg (by simp), h.inv, h.ans, decide_eq_true h.same, hf]
 rfl
def RightAll (l : List Evt) : Prop := ∀ k, k < l.length → Qf8 (l.take k) (l.getD k default) = true
theorem RightAll.snoc {l : List Evt} {e : Evt} (h : RightAll l) (he : Qf8 l e = true) : RightAll (l ++ [e]) := fun k hk => by
 simp only [List.length_append, List.length_cons, List.length_nil] at hk
 rw [Qaq om]
 by_cases c : k = l.length
 ·rw [if_pos c, c, List.take_append_of_le_length (Nat.le_refl _), List.take_length]; exact he
 ·rw [if_neg c, List.take_append_of_le_length om]; exact h k om
structure Hist (s : St) : Prop where
 right : RightAll s.evs
 rings : ∀ i, i < s.rings.length → ∀ k, k < (s.rings.getD i default).items.length → Live s.evs i ((s.rings.getD i default).items.getD k default)
 works : ∀ i, i < s.rings.length → (s.works.getD i default).state ≠ 0 → Live s.evs i (s.works.getD i default).req
 apart : ∀ i, i < s.rings.length → (s.works.getD i default).state ≠ 0 → ∀ k, k < (s.rings.getD i default).items.length → ((s.rings.getD i default).items.getD k default).serial ≠ (s.works.getD i default).req.serial
theorem Live.queue {l : List Evt} {q q' : Int} {x y : Req} (h : Live l q x) (h' : Live l q' y) (e : x.serial = y.serial) : q = q' := by
 have a := h.same.1
 have b := h'.same.1
 rw [e] at a
 exact a.symm.trans b
theorem Val.fresh {s : St} (h : Val s) : Q4 s.evs s.serial = false ∧ Q7 s.evs s.serial = false := by
 have hm : ∀ e ∈ s.evs, e.serial ≠ s.serial := fun e he => by
  obtain ⟨i, hi, rfl⟩ := List.getElem_of_mem he
  have := h.evs i hi
  rw [Qp _ _ hi] at this
  omega
 constructor
 ·unfold Q4
  rw [List.any_eq_false]
  intro e he
  simp [hm e he]
 ·unfold Q7
  rw [List.any_eq_false]
  intro e he
  simp [hm e he]
theorem QkV {r : Rng} (h : QX r = true) : ∀ k, 0 < k → k < r.items.length → (r.items.getD 0 default).serial < (r.items.getD k default).serial
 | 0, h0, _ => absurd h0 (Nat.lt_irrefl 0)
 | k + 1, _, hk => by
  have h2 := ((ringOk_R.1 h).2 (k + 1) hk).2 om
  rw [show k + 1 - 1 = k by omega] at h2
  by_cases c : k = 0
  ·subst c; exact h2
  ·have := QkV h k om om
   omega
structure Up (s t : St) (n : Nat) : Prop where
 eq : ∃ rings works evs serial closed, t = { s with rings := rings, works := works, evs := evs, serial := serial, closed := closed }
 rings : t.rings.length = s.rings.length
 works : t.works.length = s.works.length
 evs : t.evs.length ≤ s.evs.length + n
theorem Up.refl (s : St) (n : Nat) : Up s s n := ⟨⟨s.rings, s.works, s.evs, s.serial, s.closed, rfl⟩, rfl, rfl, om⟩
theorem Up.cfg {s t : St} {n : Nat} (h : Up s t n) : t.cfg = s.cfg := by obtain ⟨_, _, _, _, _, e⟩ := h.eq; rw [e]
theorem Up.map {s t : St} {n : Nat} (h : Up s t n) : t.map = s.map := by obtain ⟨_, _, _, _, _, e⟩ := h.eq; rw [e]
theorem Up.small {s t : St} {n : Nat} (h : Up s t n) (hs : s.small) (hv : Val t) (he : t.evs.length ≤ 1000000) : t.small := by
 have h1 := h.rings
 have h2 := h.works
 have hi : ∀ i, (t.rings.getD i default).items.length ≤ 1000000 := fun i => by
  by_cases c : i < t.rings.length
  ·have := (ringOk_R.1 (hv.queues i c).ring).1
   omega
  ·rw [show t.rings.getD i default = default by simp [List.getD, Nat.le_of_not_lt c]]
   exact Nat.zero_le _
 obtain ⟨_, _, _, _, _, e⟩ := h.eq
 have h3 := hs.rings
 have h4 := hs.works
 subst e
 exact ⟨hs.dev, hs.map, hs.shard, hs.live, hs.pend, hs.owner, hs.pins, hs.rets, hs.free, om, hi, om, hs.ents, hs.recs, he⟩
theorem Val.setRing {s : St} (h : Val s) {q : Nat} {r : Rng} (hq : q < s.rings.length) (h1 : QX r = true) (h2 : r.depth = s.cfg.depth) (h3 : ∀ k, k < r.items.length → (r.items.getD k default).serial < s.serial) : Val (s.setRing q r) := by
 refine ⟨{ h.parts with rings := by simp only [St.setRing, List.length_set]; exact h.parts.rings }, fun i hi => ?_, h.evs⟩
 simp only [St.setRing, List.length_set] at hi ⊢
 have := h.queues i hi
 rw [Q1 hq]
 split
 ·rename_i e; subst e; exact ⟨h1, h2, this.work, this.req, h3⟩
 ·exact this
theorem QqW {c : Conf} {r : Req} : cmdE c r = 0 ∨ cmdE c r = 1 ∨ cmdE c r = 2 ∨ cmdE c r = 3 := by
 unfold cmdE; split
 ·simp
 ·split
  ·simp
  ·split <;> simp
theorem Qrs {c : Conf} {r : Req} (h : cmdE c r = 0) : 1 ≤ r.kind ∧ r.kind ≤ 4 := by
 unfold cmdE at h
 split at h
 ·cases h
 ·omega
theorem Qoa {c : Conf} {r : Req} {e : Ent} {d : ByteArray} (h : cmdE c r = 0) : Qas c ⟨QaZ r.kind, r, e, d⟩ = true := by
 have hk := Qrs h
 unfold Qas QaZ
 rw [decide_eq_true_eq]
 right
 refine ⟨h, ?_, ?_, ?_⟩ <;> dsimp only <;> intros <;> split <;> (try split) <;> omega
theorem Qg1 {c : Conf} : Qas c default = true := by
 unfold Qas
 rw [decide_eq_true_eq]
 left; rfl
theorem Qmv {k err : Int} (h : err = 1 ∨ err = 2 ∨ err = 3 ∨ err = 12) : Qmo k err ByteArray.empty = true := by
 unfold Qmo
 rw [if_neg om, if_pos om]
 simp
theorem QoC {s : St} (h : Val s) (g : Hist s) (hr : s.rings.length ≤ 4) (q : Int) : Val (Qn true s q).1 ∧ Hist (Qn true s q).1 ∧ Up s (Qn true s q).1 1 := by
 unfold Qn
 split
 ·rename_i c
  obtain ⟨-, c0, c1, c2⟩ := c
  have hlen : s.rings.length = s.works.length := by have := h.parts.rings; have := h.parts.works; omega
  have hq : q.toNat < s.rings.length := by omega
  have eq : ((q.toNat : Nat) : Int) = q := by omega
  have hQ := h.queues q.toNat hq
  by_cases hn : 0 < (s.rings.getD q.toNat default).items.length
  ·obtain ⟨e1, e2⟩ := Qo3 hQ.ring hn
   dsimp only
   rw [e1]
   rw [if_pos rfl]
   dsimp only
   generalize hx : (s.rings.getD q.toNat default).items.getD 0 default = x
   have hlt : ∀ k, k < ((s.rings.getD q.toNat default).items.drop 1).length → x.serial < (((s.rings.getD q.toNat default).items.drop 1).getD k default).serial := fun k hk => by
    rw [List.length_drop] at hk
    rw [show ((s.rings.getD q.toNat default).items.drop 1).getD k default = (s.rings.getD q.toNat default).items.getD (1 + k) default by simp only [List.getD, List.getElem?_drop], ← hx]
    exact QkV hQ.ring (1 + k) om om
   have hlive : Live s.evs q x := by rw [← hx]; have := g.rings q.toNat hq 0 hn; rw [eq] at this; exact this
   have hser : x.serial < s.serial := by rw [← hx]; exact hQ.items 0 hn
   have hv1 : Val (s.setRing q.toNat ⟨(s.rings.getD q.toNat default).depth, (s.rings.getD q.toNat default).items.drop 1⟩) := h.setRing hq e2 hQ.depth (Qj5 (r := s.rings.getD q.toNat default) (P := fun y => y.serial < s.serial) hQ.items)
   have hdrop : ∀ k, k < ((s.rings.getD q.toNat default).items.drop 1).length → Live s.evs q (((s.rings.getD q.toNat default).items.drop 1).getD k default) := Qj5 (r := s.rings.getD q.toNat default) (P := fun y => Live s.evs q y) (fun k hk => by have := g.rings q.toNat hq k hk; rw [eq] at this; exact this)
   split
   ·rename_i hc
    refine ⟨hv1.setWork (by simp only [St.setRing]; omega) (Qoa hc) (Or.inr hser), ⟨g.right, fun i hi k hk => ?_, fun i hi hs => ?_, fun i hi hs k hk => ?_⟩, ⟨⟨_, _, _, _, _, rfl⟩, by simp [St.setRing, St.setWork], by simp [St.setRing, St.setWork], by simp [St.setRing, St.setWork]⟩⟩
    ·simp only [St.setRing, St.setWork, List.length_set] at hi hk ⊢
     rw [Q1 (l := s.rings) hq] at hk ⊢
     split at hk
     ·rename_i e; subst e; rw [if_pos rfl]; rw [eq]; exact hdrop k hk
     ·rename_i e; rw [if_neg e]; exact g.rings i hi k hk
    ·simp only [St.setRing, St.setWork, List.length_set] at hi hs ⊢
     rw [Q1 (l := s.works) (q := q.toNat) om] at hs ⊢
     split
     ·rename_i e; subst e; rw [eq]; exact hlive
     ·rename_i e; rw [if_neg e] at hs; exact g.works i hi hs
    ·simp only [St.setRing, St.setWork, List.length_set] at hi hs hk ⊢
     rw [Q1 (l := s.works) (q := q.toNat) om] at hs ⊢
     rw [Q1 (l := s.rings) hq] at hk ⊢
     by_cases e : i = q.toNat
     ·subst e
      rw [if_pos rfl] at hk ⊢
      rw [if_pos rfl]
      have := hlt k hk
      dsimp only
      omega
     ·rw [if_neg e] at hk hs ⊢
      rw [if_neg e]
      exact g.apart i hi hs k hk
   ·rename_i hc
    have herr : cmdE s.cfg x = 1 ∨ cmdE s.cfg x = 2 ∨ cmdE s.cfg x = 3 := by
     rcases QqW (c := s.cfg) (r := x) with z | z | z | z
     ·exact absurd z hc
     ·exact Or.inl z
     ·exact Or.inr (Or.inl z)
     ·exact Or.inr (Or.inr z)
    generalize cmdE s.cfg x = err at *
    rw [if_pos rfl]
    have hne : ∀ i, i < s.rings.length → i ≠ q.toNat → ∀ y, Live s.evs i y → (QN true q x err ByteArray.empty).serial ≠ y.serial := fun i hi e y hy z => by
     have := hlive.queue hy z
     omega
    refine ⟨(hv1.setWork (w := default) (by simp only [St.setRing]; omega) Qg1 (Or.inl rfl)).addEv hser, ⟨g.right.snoc (Qls om hlive (Qmv om)), fun i hi k hk => ?_, fun i hi hs => ?_, fun i hi hs k hk => ?_⟩, ⟨⟨_, _, _, _, _, rfl⟩, by simp [St.setRing, St.setWork, St.addEv], by simp [St.setRing, St.setWork, St.addEv], by simp [St.setRing, St.setWork, St.addEv]⟩⟩
    ·simp only [St.setRing, St.setWork, St.addEv, List.length_set] at hi hk ⊢
     rw [Q1 (l := s.rings) hq] at hk ⊢
     split at hk
     ·rename_i e; subst e; rw [if_pos rfl]; rw [eq]
      refine (hdrop k hk).snoc (Or.inr ?_)
      have := hlt k hk
      show x.serial ≠ _
      try skip
      omega
     ·rename_i e; rw [if_neg e]; have := g.rings i hi k hk; exact this.snoc (Or.inr (hne i hi e _ this))
    ·simp only [St.setRing, St.setWork, St.addEv, List.length_set] at hi hs ⊢
     rw [Q1 (l := s.works) (q := q.toNat) om] at hs ⊢
     split
     ·rename_i e; rw [if_pos e] at hs; exact absurd rfl hs
     ·rename_i e; rw [if_neg e] at hs; have := g.works i hi hs; exact this.snoc (Or.inr (hne i hi e _ this))
    ·simp only [St.setRing, St.setWork, St.addEv, List.length_set] at hi hs hk ⊢
     rw [Q1 (l := s.works) (q := q.toNat) om] at hs ⊢
     rw [Q1 (l := s.rings) hq] at hk ⊢
     by_cases e : i = q.toNat
     ·rw [if_pos e] at hs; exact absurd rfl hs
     ·rw [if_neg e] at hk hs ⊢
      rw [if_neg e]
      exact g.apart i hi hs k hk
  ·have : (Qah (s.rings.getD q.toNat default)).2.2 = false := by
    unfold Qah
    rw [if_neg om]
   dsimp only
   rw [this, if_neg (by simp)]
   exact ⟨h, g, Up.refl _ _⟩
 ·exact ⟨h, g, Up.refl _ _⟩
theorem QnB {s : St} (h : Val s) (g : Hist s) (hr : s.rings.length ≤ 4) (q : Int) (x : Req) : Val (QI s q x).1 ∧ Hist (QI s q x).1 ∧ Up s (QI s q x).1 2 := by
 refine ⟨h.submit q x, ?_⟩
 have hfr := h.fresh
 have hser := h.parts.serial
 unfold QI
 split
 ·split
  ·rename_i hq
   split
   ·exact ⟨g, Up.refl _ _⟩
   ·have hq2 : q.toNat < s.rings.length := by omega
    have eq : ((q.toNat : Nat) : Int) = q := by omega
    have hlen : s.rings.length = s.works.length := by have := h.parts.rings; have := h.parts.works; omega
    dsimp only
    have hinv := Qr1 (l := s.evs) (q := q) (x := { x with serial := s.serial }) om hfr.1 hfr.2 hser.1
    have hnew := Live.new (l := s.evs) (q := q) (x := { x with serial := s.serial }) hfr.1 hfr.2 hser.1
    split
    ·have hit : ∀ i, i < s.rings.length → ∀ k, k < (s.rings.getD i default).items.length → s.serial ≠ ((s.rings.getD i default).items.getD k default).serial := fun i hi k hk => by
      have := (h.queues i hi).items k hk; omega
     have hwk : ∀ i, i < s.rings.length → (s.works.getD i default).state ≠ 0 → s.serial ≠ (s.works.getD i default).req.serial := fun i hi hs => by
      have := (h.queues i hi).req.resolve_left hs; omega
     refine ⟨⟨(g.right.snoc hinv).snoc (Qls om hnew (Qmv om)), fun i hi k hk => ?_, fun i hi hs => ?_, g.apart⟩, ⟨⟨_, _, _, _, _, rfl⟩, rfl, rfl, by simp [St.addEv]⟩⟩
     ·exact ((g.rings i hi k hk).snoc (Or.inl rfl)).snoc (Or.inr (hit i hi k hk))
     ·exact ((g.works i hi hs).snoc (Or.inl rfl)).snoc (Or.inr (hwk i hi hs))
    ·rcases Qjf (x := { x with serial := s.serial }) (h.queues _ hq2).ring hser.1 (h.queues _ hq2).items with ⟨_, e⟩ | ⟨hlt, e, hok⟩
     ·rw [e, if_pos (show (13 : Int) ≠ 0 by decide)]
      exact ⟨g, Up.refl _ _⟩
     ·rw [e, if_neg (show ¬ (0 : Int) ≠ 0 by decide)]
      refine ⟨⟨g.right.snoc hinv, fun i hi k hk => ?_, fun i hi hs => ?_, fun i hi hs k hk => ?_⟩, ⟨⟨_, _, _, _, _, rfl⟩, by simp [St.setRing, St.addEv], rfl, by simp [St.addEv, St.setRing]⟩⟩
      ·simp only [St.setRing, St.addEv, List.length_set] at hi hk ⊢
       rw [Q1 (l := s.rings) hq2] at hk ⊢
       by_cases e : i = q.toNat
       ·rw [if_pos e] at hk ⊢
        simp only [List.length_append, List.length_cons, List.length_nil] at hk ⊢
        rw [Qaq hk]
        split
        ·subst e; rw [eq]; exact hnew
        ·subst e; exact (g.rings _ hi k om).snoc (Or.inl rfl)
       ·rw [if_neg e] at hk ⊢
        exact (g.rings i hi k hk).snoc (Or.inl rfl)
      ·simp only [St.setRing, St.addEv, List.length_set] at hi hs ⊢
       exact (g.works i hi hs).snoc (Or.inl rfl)
      ·simp only [St.setRing, St.addEv, List.length_set] at hi hs hk ⊢
       rw [Q1 (l := s.rings) hq2] at hk ⊢
       by_cases e : i = q.toNat
       ·rw [if_pos e] at hk ⊢
        simp only [List.length_append, List.length_cons, List.length_nil] at hk ⊢
        rw [Qaq hk]
        split
        ·have := (h.queues i hi).req.resolve_left hs
         show s.serial ≠ _
         omega
        ·subst e; exact g.apart _ hi hs k om
       ·rw [if_neg e] at hk ⊢
        exact g.apart i hi hs k hk
  ·exact ⟨g, Up.refl _ _⟩
 ·exact ⟨g, Up.refl _ _⟩
theorem Up.trans {s t u : St} {n m : Nat} (h : Up s t n) (k : Up t u m) : Up s u (n + m) := by
 refine ⟨?_, k.rings.trans h.rings, k.works.trans h.works, by have := h.evs; have := k.evs; omega⟩
 obtain ⟨_, _, _, _, _, e⟩ := h.eq
 obtain ⟨_, _, _, _, _, e'⟩ := k.eq
 subst e
 exact ⟨_, _, _, _, _, e'⟩
theorem Qa9 {α : Type} [Inhabited α] {n i : Nat} {d : α} (h : i < n) : (List.replicate n d).getD i default = d := by simp [List.getD, h]
theorem Qsx {n : Nat} (h : 1 ≤ n ∧ n ≤ 8) : Qu (List.replicate n []) = true := by
 unfold Qu
 simp only [List.length_replicate, Bool.and_eq_true, decide_eq_true_eq]
 refine ⟨h, fun i hi => ?_⟩
 rw [Qa9 hi]
 unfold Q0 QaD
 simp only [decide_eq_true_eq]
 exact ⟨fun i hi => absurd hi (Nat.not_lt_zero _), fun i hi => absurd hi (Nat.not_lt_zero _)⟩
theorem Qiu {c : Conf} {k i : Nat} (h : i < k) : (QbH c k).getD i default = 2 * Qo c + (i : Nat) := by
 simp [QbH, List.getD, h]
theorem QpM {n : Nat} (h : 1 ≤ n ∧ n ≤ 32) : QC (List.replicate n 0) (List.replicate n 0) = true := by
 unfold QC
 refine (Bool.and_eq_true _ _).mpr ⟨decide_eq_true ⟨rfl, by rw [List.length_replicate]; omega, by rw [List.length_replicate]; omega⟩, decide_eq_true fun i hi => ?_⟩
 rw [List.length_replicate] at hi
 rw [Qa9 hi]
 decide
theorem QqO {n : Nat} (h : 1 ≤ n ∧ n ≤ 4) : QA 0 (List.replicate n (-1)) [] = true := by
 unfold QA
 refine (Bool.and_eq_true _ _).mpr ⟨decide_eq_true (by simp only [List.length_replicate]; omega), (Bool.and_eq_true _ _).mpr ⟨decide_eq_true fun i hi => ?_, decide_eq_true fun i hi => absurd hi (Nat.not_lt_zero _)⟩⟩
 rw [List.length_replicate] at hi
 rw [Qa9 hi]
 exact Or.inl rfl
theorem Qs7 {c : Conf} (h : Qw c = 0) : Val (QE c) := by
 have hr := confR_iff.1 (Qv h).1
 have hd := QcP (Qv h).1
 have h6 := (Qv h).2.1
 have hs := Qae (Qv h).1
 have he := Qph h
 have hdn : Qq c = c.zones - 2 * Qo c := rfl
 have hdev : newD c.zones c.size 3 3 = newX c.zones c.size 3 3 := by unfold newD; rw [if_pos he]
 have hck : check (newX c.zones c.size 3 3) = 0 := by
  unfold newE at he
  rw [if_pos (decide_eq_true om)] at he
  exact he
 refine ⟨⟨h, ?_, ?_, ?_, ?_, ?_, ?_, ?_, ?_, ?_, ?_, ?_, ?_, ?_, ?_, ?_, ?_, ?_⟩, fun i hi => ?_, fun i hi => absurd hi (Nat.not_lt_zero _)⟩
 ·show check (newD c.zones c.size 3 3) = 0
  rw [hdev]; exact hck
 ·show ((newD c.zones c.size 3 3).zones.length : Int) = c.zones
  rw [hdev]; simp only [newX, List.length_replicate]; omega
 ·show (newD c.zones c.size 3 3).size = c.size
  rw [hdev]; rfl
 ·exact Qsx om
 ·simp only [QE, List.length_replicate]; omega
 ·simp only [QE, QaE, decide_eq_true_eq, List.length_replicate]
  intro i hi k hk
  rw [Qa9 hi] at hk
  exact absurd hk (Nat.not_lt_zero _)
 ·exact QpM om
 ·simp only [QE, List.length_replicate]; omega
 ·simp only [QE, Qaj, List.length_replicate, Bool.and_eq_true, decide_eq_true_eq]
  refine ⟨om, fun i hi => ?_⟩
  rw [Qa9 hi]; omega
 ·simp only [QE, List.length_replicate]; omega
 ·exact QqO om
 ·simp only [QE, List.length_replicate]; omega
 ·refine (Bool.and_eq_true _ _).mpr ⟨decide_eq_true h, (Bool.and_eq_true _ _).mpr ⟨decide_eq_true fun i hi => ?_, (Bool.and_eq_true _ _).mpr ⟨decide_eq_true (Or.inl rfl), (Bool.and_eq_true _ _).mpr ⟨decide_eq_true (Or.inl rfl), decide_eq_true (Or.inl rfl)⟩⟩⟩⟩
  have hi' : i < (Qq c).toNat := by rw [← Qce c (Qq c).toNat]; exact hi
  show QO c ((QbH c (Qq c).toNat).getD i default) = true ∧ (0 < i → (QbH c (Qq c).toNat).getD (i - 1) default < (QbH c (Qq c).toNat).getD i default)
  rw [Qiu hi']
  refine ⟨decide_eq_true ⟨h, om, om⟩, fun h0 => ?_⟩
  rw [Qiu om]
  omega
 ·simp only [QE, List.length_replicate]; omega
 ·simp only [QE, List.length_replicate]; omega
 ·simp only [QE]; omega
 ·simp only [QE]; omega
 ·simp only [QE, List.length_replicate] at hi ⊢
  rw [Qa9 hi, Qa9 hi]
  refine ⟨?_, rfl, Qg1, Or.inl rfl, fun k hk => absurd hk (Nat.not_lt_zero _)⟩
  rw [ringOk_R]
  refine ⟨⟨by show 1 ≤ c.depth; omega, by show c.depth ≤ 8; omega, by show ((0 : Nat) : Int) ≤ c.depth; omega⟩, fun i hi => absurd hi (Nat.not_lt_zero _)⟩
theorem Qqy {c : Conf} : Hist (QE c) := by
 refine ⟨fun k hk => absurd hk (Nat.not_lt_zero _), fun i hi k hk => ?_, fun i hi hs => ?_, fun i hi hs => ?_⟩
 ·simp only [QE, List.length_replicate] at hi hk
  rw [Qa9 hi] at hk
  exact absurd hk (Nat.not_lt_zero _)
 ·simp only [QE, List.length_replicate] at hi hs
  rw [Qa9 hi] at hs
  exact absurd rfl hs
 ·simp only [QE, List.length_replicate] at hi hs
  rw [Qa9 hi] at hs
  exact absurd rfl hs
end Go.Proofs
end
