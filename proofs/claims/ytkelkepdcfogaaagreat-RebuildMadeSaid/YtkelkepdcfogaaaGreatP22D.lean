/- Contracts, lemmas; no condition. -/
import Derived.Test.YtkelkepdcfogaaaGreatP21D
import Derived.Test.YtkelkepdcfogaaaGreatA38D
import Derived.Test.YtkelkepdcfogaaaGreatP13D
import Derived.Test.YtkelkepdcfogaaaGreatEnvD
import Derived.Shelf.SlSortFuncK.WholeK
import Derived.Test.YtkelkepdcfogaaaGreatP20D
import Derived.Test.YtkelkepdcfogaaaGreatP17D
set_option linter.all false
section
open Go Go.Am
namespace Go.Proofs
set_option maxRecDepth 20000
theorem sameF_iff {a b : Fnd} : QbG a b = true ↔ (a.r.version = b.r.version → a.r.kind = b.r.kind ∧ a.r.block = b.r.block ∧ a.r.payload = b.r.payload) := decide_eq_true_iff
theorem agreeF_iff {l : List Fnd} : Qds l = true ↔ ∀ i, i < l.length → ∀ k, k < i → QbG (l.getD i default) (l.getD k default) = true := decide_eq_true_iff
theorem agree_cond {a b : Fnd} : (bif a.r.version == b.r.version then (bif (bif a.r.kind != b.r.kind then true else a.r.block != b.r.block) then true else !decide (a.r.payload = b.r.payload)) else false) = !QbG a b := by
 unfold QbG
 by_cases h1 : a.r.version = b.r.version <;> by_cases h2 : a.r.kind = b.r.kind <;> by_cases h3 : a.r.block = b.r.block <;> by_cases h4 : a.r.payload = b.r.payload <;> simp [h1, h2, h3, h4]
set_option maxHeartbeats 2000000 in
theorem Qm8 (l : List Fnd) (hl : l.length ≤ 1000000) : PS 97 [.c (Qb5 l)] (.c (.bool (Qds l))) := by
 refine PSpec.rm ?_
 refine ov0 hΓ Tryz.func97 54 0 [.tmp 2] Tryz.ntmps97 Tryz.results97 ?_
 refine Lp.mkK hΓ (ι := Nat) [0] (fun k => [(3, .c (.int .i64 k))]) (fun k => []) (fun k => k ≤ l.length ∧ ∀ i, i < k → ∀ j, j < i → QbG (l.getD i default) (l.getD j default) = true) (fun k => l.length - k) 0 ⟨Nat.zero_le _, fun i hi => absurd hi (Nat.not_lt_zero _)⟩ ?_ ?_
 ·exact Mv.k0
 ·rintro i ⟨hi, hi2⟩
  refine Go1 fun _h=>?_
  refine Br.of (fun h1=>Go0 ?_) (fun h1=>Go0 ?_)
  ·have w0 := Qa (↑i + 1) (by omega) (by omega)
   refine Lp.mkK hΓ (ι := Nat) [0, 3] (fun k => [(4, .c (.int .i64 k))]) (fun k => []) (fun k => k ≤ i ∧ ∀ j, j < k → QbG (l.getD i default) (l.getD j default) = true) (fun k => i - k) 0 ⟨Nat.zero_le _, fun i hi => absurd hi (Nat.not_lt_zero _)⟩ ?_ ?_
   ·exact Mv.k0
   ·rintro k ⟨hk, hk2⟩
    refine Go0 ?_
    refine Br.of (fun h2=>Go0 ?_) (fun h2=>Go0 ?_)
    ·have w1 := Qa (↑k + 1) (by omega) (by omega)
     refine Dr.mkL hΓ hMix [] [(5, 12), (6, 12), (7, 12), (8, 12), (9, 12)] 10 11 (by kernel_rfl) (Go0 ?_)
     by_cases c : QbG (l.getD i default) (l.getD k default) = true
     ·refine Br.no (agree_cond.trans (by show (!QbG (l.getD i default) (l.getD k default)) = false; rw [c]; rfl)) (Go0 ?_)
      refine ⟨k + 1, ⟨by omega, fun i hi => ?_⟩, by omega, ?_⟩
      ·rcases Nat.lt_succ_iff_lt_or_eq.1 hi with q | rfl
       ·exact hk2 i q
       ·exact c
      ·exact Mv.k0
     ·refine Br.yes (agree_cond.trans (by show (!QbG (l.getD i default) (l.getD k default)) = true; rw [Bool.eq_false_iff.2 c]; rfl)) (Go0 ?_)
      rw [show Qds l = false from Bool.eq_false_iff.2 fun q => c (agreeF_iff.1 q i (by omega) k (by omega))]
      exact RM.i0
    ·have : k = i := by omega
     subst this
     refine ⟨k + 1, ⟨by omega, fun i hi => ?_⟩, by omega, ?_⟩
     ·rcases Nat.lt_succ_iff_lt_or_eq.1 hi with q | rfl
      ·exact hi2 i q
      ·exact hk2
     ·exact Mv.k0
  ·have : i = l.length := by omega
   subst this
   rw [agreeF_iff.2 hi2]
   exact RM.i0
theorem Qm6 : HB 97 := hB Tryz.func97
def keyI : Key → Int
 | .c (.i _ n) => n
 | _ => 0
@[simp] theorem keyI_i {q : IntKind} {n : Int} : keyI (.c (.i q n)) = n := rfl
def keyN (n : Int) : Key := .c (.i .i64 n)
def setO (l : List Int) : O := .mp (.c (some .i64)) [.b] false (l.map keyN) fun k _ => .bool (decide (keyI k ∈ l))
def insS (l : List Int) (n : Int) : List Int := if n ∈ l then l else l ++ [n]
theorem Qmp {l : List Int} {n : Int} : memK (l.map keyN) (.c (.i .i64 n)) = decide (n ∈ l) := by
 unfold memK keyN
 congr 1
 simp only [List.mem_map, Key.c.injEq, KC.i.injEq, true_and, eq_iff_iff]
 exact ⟨fun ⟨a, h1, h2⟩ => h2 ▸ h1, fun h => ⟨n, h, rfl⟩⟩
theorem QvJ {l : List Int} {n : Int} : updK (l.map keyN) (.c (.i .i64 n)) = (insS l n).map keyN := by
 unfold updK insS
 rw [Qmp]
 by_cases h : n ∈ l
 ·rw [if_pos h, decide_eq_true h]
 ·rw [if_neg h, decide_eq_false h]
  simp [keyN]
theorem Qt5 {l : List Int} {n x : Int} : x ∈ insS l n ↔ x = n ∨ x ∈ l := by
 unfold insS
 split
 ·rename_i h
  exact ⟨Or.inr, fun e => e.elim (fun e => e ▸ h) id⟩
 ·simp [or_comm]
def bare (r : Rec) : Rec := { r with move := 0 }
def Qdv (p : List Fnd) : Int → Rec := p.foldl (fun g f => fun v => if v = f.r.version then bare f.r else g v) (fun _ => default)
def verL (p : List Fnd) : List Int := p.foldl (fun a f => insS a f.r.version) []
def recZ : List Z := [.i .i64, .i .i64, .i .i64, .i .i64, .s]
def Qv9 (p : List Fnd) : O := .mp (.c (some .i64)) recZ true ((verL p).map keyN) fun k j => QaK (Qdv p (keyI k)) j
theorem QmJ {l : List Fnd} {k : Nat} (hk : k < l.length) : verL (l.take (k + 1)) = insS (verL (l.take k)) (l.getD k default).r.version := by
 unfold verL
 rw [Q6 l hk, List.foldl_append]
 rfl
theorem QkN {l : List Fnd} {k : Nat} (hk : k < l.length) (v : Int) : Qdv (l.take (k + 1)) v = if v = (l.getD k default).r.version then bare (l.getD k default).r else Qdv (l.take k) v := by
 unfold Qdv
 rw [Q6 l hk, List.foldl_append]
 rfl
theorem QnI {l : List Fnd} : ∀ {k : Nat}, k ≤ l.length → ∀ v : Int, (v ∈ verL (l.take k) ↔ ∃ j, j < k ∧ (l.getD j default).r.version = v) ∧ (v ∈ verL (l.take k) → ∃ j, j < k ∧ (l.getD j default).r.version = v ∧ Qdv (l.take k) v = bare (l.getD j default).r)
 | 0, _, v => by simp [verL]
 | k + 1, hk, v => by
  obtain ⟨h1, h2⟩ := QnI (k := k) (l := l) (by omega) v
  rw [QmJ (by omega), Qt5, QkN (by omega)]
  constructor
  ·rw [h1]
   constructor
   ·rintro (rfl | ⟨j, q1, q2⟩)
    ·exact ⟨k, by omega, rfl⟩
    ·exact ⟨j, by omega, q2⟩
   ·rintro ⟨j, q1, q2⟩
    by_cases e : j = k
    ·subst e; exact Or.inl q2.symm
    ·exact Or.inr ⟨j, by omega, q2⟩
  ·intro h
   by_cases e : v = (l.getD k default).r.version
   ·rw [if_pos e]
    exact ⟨k, by omega, e.symm, rfl⟩
   ·rw [if_neg e]
    obtain ⟨j, q1, q2, q3⟩ := h2 (h.resolve_left e)
    exact ⟨j, by omega, q2, q3⟩
theorem seen_cond {m : Bool} {s r : Rec} : (bif m then ((decide (s.kind = r.kind) && (decide (s.block = r.block) && (decide (s.version = r.version) && (decide (s.move = 0) && (decide (s.payload = r.payload) && true))))) == false) else false) = (m && !decide (s = bare r)) := by
 cases m with
 | false => rfl
 | true =>
  obtain ⟨a, b, c, d, e⟩ := s
  simp [bare]
  try rfl
theorem QkH {f g : Fnd} (h : bare f.r = bare g.r) : QbG f g = true := by
 rw [sameF_iff]
 intro _
 simp only [bare, Rec.mk.injEq] at h
 exact ⟨h.1, h.2.1, h.2.2.2.2⟩
theorem Qkd {f g : Fnd} (h : QbG f g = true) (hv : f.r.version = g.r.version) : bare f.r = bare g.r := by
 have := sameF_iff.1 h hv
 simp only [bare, Rec.mk.injEq]
 exact ⟨this.1, this.2.1, hv, trivial, this.2.2⟩
theorem QiY {f g : Fnd} (h : QbG f g = true) : QbG g f = true := by
 rw [sameF_iff] at *
 intro e
 have := h e.symm
 exact ⟨this.1.symm, this.2.1.symm, this.2.2.symm⟩
theorem Qu8 {l : List Fnd} {k : Nat} (hk : k < l.length) (hp : ∀ i, i < k → ∀ j, j < i → QbG (l.getD i default) (l.getD j default) = true) :
  (decide ((l.getD k default).r.version ∈ verL (l.take k)) && !decide (Qdv (l.take k) (l.getD k default).r.version = bare (l.getD k default).r)) = false ↔ ∀ j, j < k → QbG (l.getD k default) (l.getD j default) = true := by
 obtain ⟨h1, h2⟩ := QnI (l := l) (k := k) (by omega) (l.getD k default).r.version
 constructor
 ·intro h j hj
  by_cases e : (l.getD k default).r.version = (l.getD j default).r.version
  ·have hm := h1.2 ⟨j, hj, e.symm⟩
   rw [decide_eq_true hm, Bool.true_and] at h
   have hs : Qdv (l.take k) (l.getD k default).r.version = bare (l.getD k default).r := by simpa using h
   obtain ⟨i, q1, q2, q3⟩ := h2 hm
   rw [hs] at q3
   by_cases c : i = j
   ·subst c
    exact QkH q3
   ·have hij : QbG (l.getD i default) (l.getD j default) = true := by
     rcases Nat.lt_or_gt_of_ne c with q | q
     ·exact QiY (hp j hj i q)
     ·exact hp i q1 j q
    exact QkH (q3.trans (Qkd hij (q2.trans e)))
  ·rw [sameF_iff]
   exact fun q => absurd q e
 ·intro h
  by_cases hm : (l.getD k default).r.version ∈ verL (l.take k)
  ·obtain ⟨i, q1, q2, q3⟩ := h2 hm
   rw [decide_eq_true hm, q3, decide_eq_true (Qkd (QiY (h i q1)) q2)]
   rfl
  ·rw [decide_eq_false hm]
   rfl
theorem Qvy {p : List Fnd} {f : Fnd} {k : Key} {j : Nat} {cs : List C} (hk : k.sh = .c (some .i64)) (hc : lget cs j = QaK (bare f.r) j) : updV (fun k j => QaK (Qdv p (keyI k)) j) (.c (.i .i64 f.r.version)) (lget cs) k j = QaK (if keyI k = f.r.version then bare f.r else Qdv p (keyI k)) j := by
 match k, hk with
 | .c (.i q x), hk =>
  cases hk
  change updV _ _ _ _ _ = QaK (if x = f.r.version then bare f.r else Qdv p x) j
  simp only [updV, Key.c.injEq, KC.i.injEq, true_and, keyI_i]
  by_cases c : x = f.r.version
  ·rw [if_pos c, if_pos c]; exact hc
  ·rw [if_neg c, if_neg c]
set_option maxHeartbeats 2000000 in
theorem QoA (l : List Fnd) (hl : l.length ≤ 1000000) : PS 44 [.c (Qb5 l)] (.c (.bool (Qds l))) := by
 refine PSpec.rm ?_
 refine ov hΓ Tryz.func44 37 0 [.tmp 2] Tryz.ntmps44 Tryz.results44 ?_
 refine Go1 fun _h=>?_
 refine Lp.mkK hΓ (ι := Nat) [3, 10, 11] (fun k => [(12, .c (.int .i64 k))]) (fun k => [Qv9 (l.take k)]) (fun k => k ≤ l.length ∧ ∀ i, i < k → ∀ j, j < i → QbG (l.getD i default) (l.getD j default) = true) (fun k => l.length - k) 0 ⟨Nat.zero_le _, fun i hi => absurd hi (Nat.not_lt_zero _)⟩ ?_ ?_
 ·refine Mv.k1 ?_
  intro k j hk hj
  refine leF.of_eq ?_
  match j, hj with
  | 0, _ => rfl
  | 1, _ => rfl
  | 2, _ => rfl
  | 3, _ => rfl
  | 4, _ => rfl
 ·rintro k ⟨hk, hk2⟩
  refine Go0 ?_
  refine Br.of (fun h1=>Go0 ?_) (fun h1=>Go0 ?_)
  ·have w0 := Qa (↑k + 1) (by omega) (by omega)
   have hk3 : k < l.length := by omega
   have hs := Qu8 hk3 hk2
   by_cases c : (decide ((l.getD k default).r.version ∈ verL (l.take k)) && !decide (Qdv (l.take k) (l.getD k default).r.version = bare (l.getD k default).r)) = false
   ·refine Br.no (seen_cond.trans (Eq.trans (by rw [Qmp]; rfl) c)) (Go0 ?_)
    refine ⟨k + 1, ⟨by omega, fun i hi => ?_⟩, by omega, ?_⟩
    ·rcases Nat.lt_succ_iff_lt_or_eq.1 hi with q | rfl
     ·exact hk2 i q
     ·exact hs.1 c
    ·refine Mv.k1 ?_
     refine WO.mp rfl rfl rfl ?_ fun q j hq hj => leF.of_eq ?_
     ·rw [QmJ hk3]
      exact QvJ
     ·rw [QkN hk3]
      refine Qvy hq ?_
      match j, hj with
      | 0, _ => rfl
      | 1, _ => rfl
      | 2, _ => rfl
      | 3, _ => rfl
      | 4, _ => rfl
   ·refine Br.yes (seen_cond.trans (Eq.trans (by rw [Qmp]; rfl) (Bool.not_eq_false _ ▸ c))) (Go0 ?_)
    rw [show Qds l = false from Bool.eq_false_iff.2 fun q => c (hs.2 fun j hj => agreeF_iff.1 q k hk3 j hj)]
    exact RM.i0
  ·have : k = l.length := by omega
   subst this
   rw [agreeF_iff.2 hk2]
   exact RM.i0
theorem QoR : HB 44 := hB Tryz.func44
def hitE (f : Fnd) (e : Ent) : Bool := decide (e.block = f.r.block ∧ e.version = f.r.version)
theorem Qea (b : Bas) (f : Fnd) : Qah b f = (decide (b.cut ≤ f.r.version) || b.ents.any (hitE f)) := rfl
theorem QbP {α : Type} [Inhabited α] {l : List α} {p : α → Bool} (h : ∀ j, j < l.length → p (l.getD j default) = false) : l.any p = false := by
 rw [List.any_eq_false]
 intro x hx
 obtain ⟨i, hi, rfl⟩ := List.getElem_of_mem hx
 have := h i hi
 rw [Qcf l i hi] at this
 rw [this]
 exact Bool.false_ne_true
theorem hit_cond {f : Fnd} {e : Ent} : (bif e.block == f.r.block then e.version == f.r.version else false) = hitE f e := by
 unfold hitE
 by_cases h1 : e.block = f.r.block <;> simp [h1] <;> rfl
set_option maxHeartbeats 2000000 in
theorem QlF (b : Bas) (f : Fnd) (hb : b.ents.length ≤ 1000000) : PS 98 [.a b.cells, .a f.cells] (.c (.bool (Qah b f))) := by
 refine PSpec.rm ?_
 refine ov0 hΓ Tryz.func98 41 0 [.tmp 4] Tryz.ntmps98 Tryz.results98 ?_
 by_cases h : b.cut ≤ f.r.version
 ·refine Br.yes (by simpa using h) (Go0 ?_)
  rw [show Qah b f = true by rw [Qea, decide_eq_true h]; rfl]
  exact RM.i0
 ·refine Br.no (by simpa using h) (Go0 ?_)
  have hc : Qah b f = b.ents.any (hitE f) := by rw [Qea, decide_eq_false h]; rfl
  refine Lp.mkK hΓ (ι := Nat) [2,3] (fun k => [(5, .c (.int .i64 k))]) (fun k => [.vr b.cells, .vr f.cells]) (fun k => k ≤ b.ents.length ∧ ∀ j, j < k → hitE f (b.ents.getD j default) = false) (fun k => b.ents.length - k) 0 ⟨Nat.zero_le _, fun i hi => absurd hi (Nat.not_lt_zero _)⟩ ?_ ?_
  ·exact Mv.k0
  ·rintro k ⟨hk, hk2⟩
   refine Go1 fun _h=>?_
   refine Br.of (fun h1=>Go0 ?_) (fun h1=>Go0 ?_)
   ·have w0 := Qa (↑k + 1) (by omega) (by omega)
    refine Dr.mk hΓ hMix (by kernel_rfl) (Go0 ?_)
    cases c : hitE f (b.ents.getD k default) with
    | true =>
     refine Br.yes (hit_cond.trans c) (Go0 ?_)
     rw [hc, (QbW (by omega) c hk2).1]
     exact RM.i0
    | false =>
     refine Br.no (hit_cond.trans c) (Go0 ?_)
     refine ⟨k + 1, ⟨by omega, fun j hj => ?_⟩, by omega, ?_⟩
     ·rcases Nat.lt_succ_iff_lt_or_eq.1 hj with q | rfl
      ·exact hk2 j q
      ·exact c
     ·exact Mv.k0
   ·have : k = b.ents.length := by omega
    subst this
    rw [hc, QbP hk2]
    exact RM.i0
theorem QlI : HB 98 := hB Tryz.func98
set_option maxHeartbeats 2000000 in
theorem Qmi (b : Bas) (f : Fnd) (hb : b.ents.length ≤ 1000000) : PS 24 [.a b.cells, .a f.cells] (.c (.bool (Qah b f))) := by
 refine PSpec.rm ?_
 refine ov0 hΓ Tryz.func24 35 0 [.tmp 4] Tryz.ntmps24 Tryz.results24 ?_
 by_cases h : b.cut ≤ f.r.version
 ·refine Br.yes (by simpa using h) (Go0 ?_)
  rw [show Qah b f = true by rw [Qea, decide_eq_true h]; rfl]
  exact RM.i0
 ·refine Br.no (by simpa using h) (Go1 fun _h=>?_)
  have hc : Qah b f = b.ents.any (hitE f) := by rw [Qea, decide_eq_false h]; rfl
  refine Lp.mkK hΓ (ι := Nat) [2,3,14,15] (fun k => [(16, .c (.int .i64 k))]) (fun k => [.vr b.cells, .vr f.cells]) (fun k => k ≤ b.ents.length ∧ ∀ j, j < k → hitE f (b.ents.getD j default) = false) (fun k => b.ents.length - k) 0 ⟨Nat.zero_le _, fun i hi => absurd hi (Nat.not_lt_zero _)⟩ ?_ ?_
  ·exact Mv.k0
  ·rintro k ⟨hk, hk2⟩
   refine Go0 ?_
   refine Br.of (fun h1=>Go0 ?_) (fun h1=>Go0 ?_)
   ·have w0 := Qa (↑k + 1) (by omega) (by omega)
    skip
    cases c : hitE f (b.ents.getD k default) with
    | true =>
     refine Br.yes (hit_cond.trans c) (Go0 ?_)
     rw [hc, (QbW (by omega) c hk2).1]
     exact RM.i0
    | false =>
     refine Br.no (hit_cond.trans c) (Go0 ?_)
     refine ⟨k + 1, ⟨by omega, fun j hj => ?_⟩, by omega, ?_⟩
     ·rcases Nat.lt_succ_iff_lt_or_eq.1 hj with q | rfl
      ·exact hk2 j q
      ·exact c
     ·exact Mv.k0
   ·have : k = b.ents.length := by omega
    subst this
    rw [hc, QbP hk2]
    exact RM.i0
theorem QnV : HB 24 := hB Tryz.func24
theorem Qlz (a b : Fnd) : PS 99 [.a a.cells, .a b.cells] (.c (.bool (Qw a b))) := by
 refine PSpec.rm ?_
 refine ov0 hΓ Tryz.func99 57 0 [.tmp 4] Tryz.ntmps99 Tryz.results99 ?_
 by_cases h1 : a.r.version = b.r.version
 ·refine Br.no (by simpa using h1) (Go0 ?_)
  by_cases h2 : a.r.move = b.r.move
  ·refine Br.no (by simpa using h2) (Go0 ?_)
   by_cases h3 : a.zone = b.zone
   ·refine Br.no (by simpa using h3) (Go0 ?_)
    rw [show Qw a b = decide (a.offset < b.offset) by unfold Qw; rw [if_pos h1, if_pos h2, if_pos h3]]
    exact RM.i0
   ·refine Br.yes (by simpa using h3) (Go0 ?_)
    rw [show Qw a b = decide (a.zone < b.zone) by unfold Qw; rw [if_pos h1, if_pos h2, if_neg h3]]
    exact RM.i0
  ·refine Br.yes (by simpa using h2) (Go0 ?_)
   rw [show Qw a b = decide (b.r.move < a.r.move) by unfold Qw; rw [if_pos h1, if_neg h2]]
   exact RM.i0
 ·refine Br.yes (by simpa using h1) (Go0 ?_)
  rw [show Qw a b = decide (b.r.version < a.r.version) by unfold Qw; rw [if_neg h1]]
  exact RM.i0
theorem QlA : HB 99 := hB Tryz.func99
theorem Qn1 (a b : Fnd) : PS 48 [.a a.cells, .a b.cells] (.c (.bool (Qw a b))) := by
 refine PSpec.rm ?_
 refine ov0 hΓ Tryz.func48 54 0 [.tmp 4] Tryz.ntmps48 Tryz.results48 ?_
 by_cases h1 : a.r.version = b.r.version
 ·refine Br.no (by simpa using h1) (Go0 ?_)
  by_cases h2 : a.r.move = b.r.move
  ·refine Br.no (by simpa using h2) (Go0 ?_)
   by_cases h3 : a.zone = b.zone
   ·refine Br.no (by simpa using h3) (Go0 ?_)
    rw [show Qw a b = decide (a.offset < b.offset) by unfold Qw; rw [if_pos h1, if_pos h2, if_pos h3]]
    exact RM.i0
   ·refine Br.yes (by simpa using h3) (Go0 ?_)
    rw [show Qw a b = decide (a.zone < b.zone) by unfold Qw; rw [if_pos h1, if_pos h2, if_neg h3]]
    exact RM.i0
  ·refine Br.yes (by simpa using h2) (Go0 ?_)
   rw [show Qw a b = decide (b.r.move < a.r.move) by unfold Qw; rw [if_pos h1, if_neg h2]]
   exact RM.i0
 ·refine Br.yes (by simpa using h1) (Go0 ?_)
  rw [show Qw a b = decide (b.r.version < a.r.version) by unfold Qw; rw [if_neg h1]]
  exact RM.i0
theorem QnM : HB 48 := hB Tryz.func48
theorem QkB {b : Bas} {l : List Fnd} {i : Int} {k : Nat} (hk : k < l.length) : QO b (l.take (k + 1)) i = Qcz b i (QO b (l.take k) i) (l.getD k default) := by
 unfold QO
 rw [Q6 l hk, List.foldl_append]
 rfl
def Qi9 (o : Option Fnd) : Fnd := o.getD default
theorem best_cond {b : Bas} {i : Int} {o : Option Fnd} {f : Fnd} : (bif (bif f.r.block == i then Qah b f else false) then (bif !o.isSome then true else Qw f (Qi9 o)) else false) = true ↔ (f.r.block = i ∧ Qah b f = true ∧ ∀ g, o = some g → Qw f g = true) := by
 cases o with
 | none => by_cases h : f.r.block = i <;> cases Qah b f <;> simp [h]
 | some g =>
  unfold Qi9
  by_cases h : f.r.block = i <;> cases Qah b f <;> simp [h]
set_option maxHeartbeats 4000000 in
theorem QdK (b : Bas) (l : List Fnd) (i : Int) (hb : b.ents.length ≤ 1000000) (hl : l.length ≤ 1000000) : PS 55 [.a b.cells, .c (Qb5 l), .c (.int .i64 i)] (.t [.inr (Qi9 (QO b l i)).cells, .inl (.bool (QO b l i).isSome)]) := by
 refine PSpec.rm ?_
 refine ov0 hΓ Tryz.func55 51 0 [.cell 6 71, .tmp 7] Tryz.ntmps55 Tryz.results55 ?_
 refine Lp.mkK hΓ (ι := Nat) [1,2,3,6,8] (fun k => [(10, .c (.int .i64 k)), (9, .c (.bool (QO b (l.take k) i).isSome))]) (fun k => [.vr b.cells, .vr (default : Fnd).cells, .vr (Qi9 (QO b (l.take k) i)).cells]) (fun k => k ≤ l.length) (fun k => l.length - k) 0 (Nat.zero_le _) ?_ ?_
 ·exact Mv.k0
 ·intro k hk
  refine Go1 fun _h=>?_
  refine Br.of (fun h1=>Go0 ?_) (fun h1=>Go0 ?_)
  ·have w0 := Qa (↑k + 1) (by omega) (by omega)
   refine Dr.mk hΓ hMix (by kernel_rfl) (Go0 ?_)
   refine CallP.autoG QlI (fun _ => QlF b (l.getD k default) hb ) (Go0 ?_)
   refine CallP.autoG QlA (fun _ => Qlz (l.getD k default) (Qi9 (QO b (l.take k) i)) ) (Go0 ?_)
   by_cases c : (l.getD k default).r.block = i ∧ Qah b (l.getD k default) = true ∧ ∀ g, QO b (l.take k) i = some g → Qw (l.getD k default) g = true
   ·have e1 : QO b (l.take (k + 1)) i = some (l.getD k default) := by rw [QkB (by omega)]; exact if_pos c
    refine Br.yes (best_cond.2 c) (Go0 ?_)
    refine ⟨k + 1, by omega, by omega, ?_⟩
    rw [e1]
    exact Mv.k0
   ·have e1 : QO b (l.take (k + 1)) i = QO b (l.take k) i := by rw [QkB (by omega)]; exact if_neg c
    refine Br.no (Bool.eq_false_iff.2 fun q => c (best_cond.1 q)) (Go0 ?_)
    refine ⟨k + 1, by omega, by omega, ?_⟩
    rw [e1]
    exact Mv.k0
  ·have : k = l.length := by omega
   subst this
   rw [List.take_length]
   exact RM.i0
theorem QdN : HB 55 := hB Tryz.func55
def Qb (a b : Fnd) : Bool := decide (a.r.block < b.r.block) || (decide (a.r.block = b.r.block) && Qw a b)
theorem QsF {a b : Fnd} : (bif decide (a.r.block < b.r.block) then true else bif a.r.block == b.r.block then Qw a b else false) = Qb a b := by
 unfold Qb
 by_cases h1 : a.r.block < b.r.block <;> by_cases h2 : a.r.block = b.r.block <;> simp [h1, h2]
set_option maxHeartbeats 2000000 in
theorem QsU (l : List Fnd) (i k : Nat) (hl : l.length ≤ 1000000) (hi : i < l.length) (hk : k < l.length) : PS 47 [.c (.int .i64 i), .c (.int .i64 k), .c (.ip 1 fun _ => Qb5 l)] (.c (.bool (Qb (l.getD i default) (l.getD k default)))) := by
 refine PSpec.rm ?_
 refine ov0 hΓ Tryz.func47 37 0 [.tmp 5] Tryz.ntmps47 Tryz.results47 ?_
 refine Dr.mkL hΓ hMix [] [(4, 10), (5, 10), (6, 10), (7, 10)] 8 9 (by kernel_rfl) (Go0 ?_)
 refine CallG.auto QnM (fun _ => Qn1 (l.getD i default) (l.getD k default) ) (Go0 ?_)
 rw [show ((i : Int)).toNat = i from rfl, show ((k : Int)).toNat = k from rfl, QsF]
 exact RM.i0
theorem Qaf : HB 47 := hB Tryz.func47
end Go.Proofs
end

section
namespace Go.Proofs
open Go.Shelf
def Tryz.laySlice_ren : Go.Shelf.Ren := ⟨fun | 6 => 46 | 10 => 86 | 11 => 87 | 12 => 88 | 13 => 89 | 14 => 90 | 24 => 129 | 25 => 130 | 26 => 131 | 27 => 132 | 28 => 133 | 29 => 134 | 30 => 135 | 31 => 136 | 32 => 137 | 33 => 138 | 34 => 156 | 35 => 157 | 36 => 158 | 37 => 159 | 38 => 160 | 39 => 176 | n => n, fun | 20 => 20 | 26 => 108 | 35 => 152 | 0 => 0 | 37 => 154 | 3 => 3 | 41 => 115 | 44 => 159 | 49 => 131 | 51 => 189 | 4 => 4 | 54 => 192 | 53 => 191 | 58 => 165 | 5 => 5 | 9 => 9 | 60 => 203 | 64 => 207 | 66 => 214 | 67 => 146 | 17 => 17 | 32 => 149 | 33 => 150 | 82 => 250 | 12 => 12 | 75 => 244 | 76 => 245 | 77 => 246 | 78 => 219 | 79 => 247 | 80 => 248 | n => n, fun | n => n⟩
theorem Tryz.laySlice : Go.Proofs.LaysGg.n6 Tryz.prog Tryz.laySlice_ren := {
 mixed := by kernel_rfl,
 f6 := Tryz.func46.trans (congrArg some (by kernel_rfl)),
 f10 := Tryz.func86.trans (congrArg some (by kernel_rfl)),
 f11 := Tryz.func87.trans (congrArg some (by kernel_rfl)),
 f12 := Tryz.func88.trans (congrArg some (by kernel_rfl)),
 f13 := Tryz.func89.trans (congrArg some (by kernel_rfl)),
 f14 := Tryz.func90.trans (congrArg some (by kernel_rfl)),
 f24 := Tryz.func129.trans (congrArg some (by kernel_rfl)),
 f25 := Tryz.func130.trans (congrArg some (by kernel_rfl)),
 f26 := Tryz.func131.trans (congrArg some (by kernel_rfl)),
 f27 := Tryz.func132.trans (congrArg some (by kernel_rfl)),
 f28 := Tryz.func133.trans (congrArg some (by kernel_rfl)),
 f29 := Tryz.func134.trans (congrArg some (by kernel_rfl)),
 f30 := Tryz.func135.trans (congrArg some (by kernel_rfl)),
 f31 := Tryz.func136.trans (congrArg some (by kernel_rfl)),
 f32 := Tryz.func137.trans (congrArg some (by kernel_rfl)),
 f33 := Tryz.func138.trans (congrArg some (by kernel_rfl)),
 f34 := Tryz.func156.trans (congrArg some (by kernel_rfl)),
 f35 := Tryz.func157.trans (congrArg some (by kernel_rfl)),
 f36 := Tryz.func158.trans (congrArg some (by kernel_rfl)),
 f37 := Tryz.func159.trans (congrArg some (by kernel_rfl)),
 f38 := Tryz.func160.trans (congrArg some (by kernel_rfl)),
 f39 := Tryz.func176.trans (congrArg some (by kernel_rfl)),
 t0 := Tryz.underlying0,
 a0 := Tryz.isAgg0,
 z0 := Tryz.sizeOf0,
 v0 := Tryz.zeroValue0,
 i0 := by kernel_rfl,
 t3 := Tryz.underlying3,
 a3 := Tryz.isAgg3,
 z3 := Tryz.sizeOf3,
 v3 := Tryz.zeroValue3,
 i3 := by kernel_rfl,
 t4 := Tryz.underlying4,
 a4 := Tryz.isAgg4,
 z4 := Tryz.sizeOf4,
 v4 := Tryz.zeroValue4,
 i4 := by kernel_rfl,
 t5 := Tryz.underlying5,
 a5 := Tryz.isAgg5,
 z5 := Tryz.sizeOf5,
 v5 := Tryz.zeroValue5,
 i5 := by kernel_rfl,
 t9 := Tryz.underlying9,
 a9 := Tryz.isAgg9,
 z9 := Tryz.sizeOf9,
 v9 := Tryz.zeroValue9,
 i9 := by kernel_rfl,
 t12 := Tryz.underlying12,
 a12 := Tryz.isAgg12,
 z12 := Tryz.sizeOf12,
 v12 := Tryz.zeroValue12,
 i12 := by kernel_rfl,
 t17 := Tryz.underlying17,
 a17 := Tryz.isAgg17,
 z17 := Tryz.sizeOf17,
 v17 := Tryz.zeroValue17,
 i17 := by kernel_rfl,
 t20 := Tryz.underlying20,
 a20 := Tryz.isAgg20,
 z20 := Tryz.sizeOf20,
 v20 := Tryz.zeroValue20,
 i20 := by kernel_rfl,
 t26 := Tryz.underlying108,
 a26 := Tryz.isAgg108,
 z26 := Tryz.sizeOf108,
 v26 := Tryz.zeroValue108,
 i26 := by kernel_rfl,
 t32 := Tryz.underlying149,
 a32 := Tryz.isAgg149,
 z32 := Tryz.sizeOf149,
 v32 := Tryz.zeroValue149,
 i32 := by kernel_rfl,
 t33 := Tryz.underlying150,
 a33 := Tryz.isAgg150,
 z33 := Tryz.sizeOf150,
 v33 := Tryz.zeroValue150,
 i33 := by kernel_rfl,
 t35 := Tryz.underlying152,
 a35 := Tryz.isAgg152,
 z35 := Tryz.sizeOf152,
 v35 := Tryz.zeroValue152,
 i35 := by kernel_rfl,
 t37 := Tryz.underlying154,
 a37 := Tryz.isAgg154,
 z37 := Tryz.sizeOf154,
 v37 := Tryz.zeroValue154,
 i37 := by kernel_rfl,
 t41 := Tryz.underlying115,
 a41 := Tryz.isAgg115,
 z41 := Tryz.sizeOf115,
 v41 := Tryz.zeroValue115,
 i41 := by kernel_rfl,
 t44 := Tryz.underlying159,
 a44 := Tryz.isAgg159,
 z44 := Tryz.sizeOf159,
 v44 := Tryz.zeroValue159,
 i44 := by kernel_rfl,
 t49 := Tryz.underlying131,
 a49 := Tryz.isAgg131,
 z49 := Tryz.sizeOf131,
 v49 := Tryz.zeroValue131,
 i49 := by kernel_rfl,
 t51 := Tryz.underlying189,
 a51 := Tryz.isAgg189,
 z51 := Tryz.sizeOf189,
 v51 := Tryz.zeroValue189,
 i51 := by kernel_rfl,
 t53 := Tryz.underlying191,
 a53 := Tryz.isAgg191,
 z53 := Tryz.sizeOf191,
 v53 := Tryz.zeroValue191,
 i53 := by kernel_rfl,
 t54 := Tryz.underlying192,
 a54 := Tryz.isAgg192,
 z54 := Tryz.sizeOf192,
 v54 := Tryz.zeroValue192,
 i54 := by kernel_rfl,
 t58 := Tryz.underlying165,
 a58 := Tryz.isAgg165,
 z58 := Tryz.sizeOf165,
 v58 := Tryz.zeroValue165,
 i58 := by kernel_rfl,
 t60 := Tryz.underlying203,
 a60 := Tryz.isAgg203,
 z60 := Tryz.sizeOf203,
 v60 := Tryz.zeroValue203,
 i60 := by kernel_rfl,
 t64 := Tryz.underlying207,
 a64 := Tryz.isAgg207,
 z64 := Tryz.sizeOf207,
 v64 := Tryz.zeroValue207,
 i64 := by kernel_rfl,
 t66 := Tryz.underlying214,
 a66 := Tryz.isAgg214,
 z66 := Tryz.sizeOf214,
 v66 := Tryz.zeroValue214,
 i66 := by kernel_rfl,
 t67 := Tryz.underlying146,
 a67 := Tryz.isAgg146,
 z67 := Tryz.sizeOf146,
 v67 := Tryz.zeroValue146,
 i67 := by kernel_rfl,
 t75 := Tryz.underlying244,
 a75 := Tryz.isAgg244,
 z75 := Tryz.sizeOf244,
 v75 := Tryz.zeroValue244,
 i75 := by kernel_rfl,
 t76 := Tryz.underlying245,
 a76 := Tryz.isAgg245,
 z76 := Tryz.sizeOf245,
 v76 := Tryz.zeroValue245,
 i76 := by kernel_rfl,
 t77 := Tryz.underlying246,
 a77 := Tryz.isAgg246,
 z77 := Tryz.sizeOf246,
 v77 := Tryz.zeroValue246,
 i77 := by kernel_rfl,
 t78 := Tryz.underlying219,
 a78 := Tryz.isAgg219,
 z78 := Tryz.sizeOf219,
 v78 := Tryz.zeroValue219,
 i78 := by kernel_rfl,
 t79 := Tryz.underlying247,
 a79 := Tryz.isAgg247,
 z79 := Tryz.sizeOf247,
 v79 := Tryz.zeroValue247,
 i79 := by kernel_rfl,
 t80 := Tryz.underlying248,
 a80 := Tryz.isAgg248,
 z80 := Tryz.sizeOf248,
 v80 := Tryz.zeroValue248,
 i80 := by kernel_rfl,
 t82 := Tryz.underlying250,
 a82 := Tryz.isAgg250,
 z82 := Tryz.sizeOf250,
 v82 := Tryz.zeroValue250,
 i82 := by kernel_rfl }
end Go.Proofs
end

section
open Go Go.Am
namespace Go.Proofs
set_option maxRecDepth 20000
theorem Qso (n : Int) (hn : 0 ≤ n ∧ n < 65536) : PS 147 [.c (.int .i64 n), .c (.int .i64 2)] (.t [.inl (.str (putS n 2)), .inl (.int .i64 0)]) := by
 refine PSpec.rm ?_
 refine ov0 hΓ Tryz.func147 44 0 [.tmp 4, .tmp 5] Tryz.ntmps147 Tryz.results147 ?_
 have e : IntKind.i64.wrap (1 * 2 ^ min (IntKind.u64.wrap (IntKind.i64.wrap (8 * 2))).toNat IntKind.i64.bits) = 65536 := by decide
 refine Br.no (by rw [e]; simp; omega) (Go0 ?_)
 refine Lp.mk hΓ (ι := Nat) (fun k => [(7, .c (.int .i64 k)), (6, .c (.sl 0 1 2 2 true)), (0, .c (.int .i64 n)), (1, .c (.int .i64 2))]) (fun k => [.arr 5 1 2 (putG n k)]) (fun k => k ≤ 2) (fun k => 2 - k) 0 (Nat.zero_le _) ?_ ?_
 ·exact Mv.mk' 1 rfl ⟨O.wk.arr rfl (fun i hi j hj => by
   have hj : j < 1 := hj
   have : j = 0 := by omega
   subst this
   exact wkC.imm rfl), trivial⟩ ⟨wkS.imm rfl, wkS.c (wkC.sl (by decide) rfl rfl (fun _ => rfl)), wkS.imm rfl, wkS.imm rfl, trivial⟩ (Nat.zero_le _)
 ·intro k hk
  refine Go0 ?_
  refine Br.of (fun h=>Go0 ?_) (fun h=>Go0 ?_)
  ·refine Need.mk (by rw [IntKind.wrap_u64]; omega) (Go0 ?_)
   have w0 := Qa (↑k + 1) (by omega) (by omega)
   refine ⟨k + 1, by omega, by omega, Mv.mk' 1 rfl ⟨O.wk.arr rfl (fun i hi j hj => wkC.of_eq (Qgt _ _ _ _) ?_), trivial⟩ ⟨wkS.c (wkC.int (by rw [w0]; rfl)), wkS.c (wkC.sl (by decide) rfl rfl (fun e => e)), wkS.imm rfl, wkS.imm rfl, trivial⟩ (Nat.zero_le _)⟩
   have hj : j = 0 := by omega
   subst hj
   rw [Qbm]
   simp only [putG, putB, Int.toNat_natCast]
   by_cases c : i = k
   ·subst c
    simp
   ·rw [if_neg (by simp [c])]
    by_cases c2 : i < k
    ·rw [if_pos c2, if_pos (by omega)]
    ·rw [if_neg c2, if_neg (by omega)]
  ·have : k = 2 := by omega
   subst this
   refine Need.mk (fun i hi => ⟨putB n i, by simp only [putG]; rw [if_pos hi]⟩) (Go0 ?_)
   exact RM.imm rfl (wkS.t ⟨wkC.str (Qgq n 2), wkC.imm rfl, trivial⟩)
theorem Qtn : HB 147 := Qfe
theorem Qg2 (n : Int) (hn : 0 ≤ n ∧ n < 65536) : PS 112 [.c (.int .i64 n), .c (.int .i64 2)] (.c (.str (putS n 2))) := by
 refine ov hΓ Tryz.func112 14 0 [.tmp 4] Tryz.ntmps112 Tryz.results112 ?_
 conv=>whnf
 refine CallN.pure Qtn (Qso n hn ) (leA.refl rfl) rfl ?_
 ((conv=>whnf);(repeat' ((first|refine Nd ?_|refine Hv fun _h=>?_);conv=>whnf)))
theorem Qhm : HB 112 := hB Tryz.func112
theorem Qn6 (n : Int) (hn : 0 ≤ n ∧ n < 4294967296) : PS 112 [.c (.int .i64 n), .c (.int .i64 4)] (.c (.str (putS n 4))) := by
 refine ov hΓ Tryz.func112 14 0 [.tmp 4] Tryz.ntmps112 Tryz.results112 ?_
 conv=>whnf
 refine CallN.pure Qk3 (Qky n hn ) (leA.refl rfl) rfl ?_
 ((conv=>whnf);(repeat' ((first|refine Nd ?_|refine Hv fun _h=>?_);conv=>whnf)))
theorem Qmj : HB 112 := hB Tryz.func112
theorem Qhr (n : Int) (hn : 0 ≤ n ∧ n < 281474976710656) : PS 112 [.c (.int .i64 n), .c (.int .i64 6)] (.c (.str (putS n 6))) := by
 refine ov hΓ Tryz.func112 14 0 [.tmp 4] Tryz.ntmps112 Tryz.results112 ?_
 conv=>whnf
 refine CallN.pure Qlh (Qlb n hn ) (leA.refl rfl) rfl ?_
 ((conv=>whnf);(repeat' ((first|refine Nd ?_|refine Hv fun _h=>?_);conv=>whnf)))
theorem Qhj : HB 112 := hB Tryz.func112
theorem Qnd (e : Ent) (n : Int) : PS 149 [.a e.cells, .c (.int .i64 n)] (.c (.int .i64 (Qam e n))) := by
 refine PSpec.rm ?_
 refine ov0 hΓ Tryz.func149 63 0 [.tmp 4] Tryz.ntmps149 Tryz.results149 ?_
 by_cases h1 : e.kind = 1
 ·refine Br.no (by simpa using h1) (Go0 ?_)
  by_cases h2 : 0 ≤ e.block ∧ e.block < 128 ∧ 1 ≤ e.version ∧ e.version < n ∧ 0 ≤ e.move ∧ e.move ≤ 255 ∧ 0 ≤ e.zone ∧ e.zone < 32 ∧ 0 ≤ e.offset ∧ e.offset < 64
  ·refine Br.no (Bool.eq_false_iff.2 fun z => by simp at z; omega) (Go0 ?_)
   rw [show Qam e n = 0 by unfold Qam; rw [if_pos h1, if_pos h2]]
   exact RM.i0
  ·refine Br.yes (Decidable.byContradiction fun z => h2 (by simp at z; omega)) (Go0 ?_)
   rw [show Qam e n = 1 by unfold Qam; rw [if_pos h1, if_neg h2]]
   exact RM.i0
 ·refine Br.yes (by simpa using h1) (Go0 ?_)
  rw [show Qam e n = 3 by unfold Qam; rw [if_neg h1]]
  exact RM.i0
theorem Qm7 : HB 149 := hB Tryz.func149
theorem QgG {l : List Ent} {n : Int} {k : Nat} (h : QX l n k ≠ 0) : ∀ d, QX l n (k + d) = QX l n k
 | 0 => rfl
 | d + 1 => by
  have h1 := QgG h d
  show QX l n ((k + d) + 1) = _
  simp only [QX]
  rw [h1, if_neg h]
theorem Qb3 {l : List Ent} {n : Int} {k : Nat} {v : Int} (hk : k < l.length) (h : QX l n (k + 1) = v) (hv : v ≠ 0) : QX l n l.length = v := by
 have := QgG (l := l) (n := n) (k := k + 1) (by rw [h]; exact hv) (l.length - (k + 1))
 rw [show k + 1 + (l.length - (k + 1)) = l.length by omega, h] at this
 exact this
def QlT (seq next cut : Int) (l : List Ent) : List C := [.int .i64 seq, .int .i64 next, .int .i64 cut, QQ l]
set_option maxHeartbeats 1000000 in
theorem Qmt (seq next cut : Int) (l : List Ent) (hl : l.length ≤ 1000000) : PS 111 [.a (QlT seq next cut l)] (.c (.int .i64 (QJ seq next cut l))) := by
 refine PSpec.rm ?_
 refine ov0 hΓ Tryz.func111 75 0 [.tmp 2] Tryz.ntmps111 Tryz.results111 ?_
 by_cases h1 : 1 ≤ seq ∧ seq < 1099511627776 ∧ 1 ≤ next ∧ next ≤ 1099511627776 ∧ 1 ≤ cut ∧ cut ≤ next
 ·refine Br.no (Bool.eq_false_iff.2 fun z => by simp at z; omega) (Go1 fun _h=>?_)
  by_cases h2 : 128 < l.length
  ·refine Br.yes (by simpa using (by omega : (128 : Int) < l.length)) (Go0 ?_)
   rw [show QJ seq next cut l = 19 by unfold QJ; rw [if_pos h1, if_pos h2]]
   exact RM.i0
  ·refine Br.no (by simpa using (by omega : (l.length : Int) ≤ 128)) (Go0 ?_)
   have he : QJ seq next cut l = QX l next l.length := by unfold QJ; rw [if_pos h1, if_neg h2]
   rw [he]
   refine Lp.mkK hΓ (ι := Nat) [1] (fun k => [(3, .c (.int .i64 k))]) (fun k => [.vr (QlT seq next cut l)]) (fun k => k ≤ l.length ∧ QX l next k = 0) (fun k => l.length - k) 0 ⟨Nat.zero_le _, rfl⟩ ?_ ?_
   ·exact Mv.k0
   ·rintro k ⟨hk, hk2⟩
    refine Go1 fun _h=>?_
    refine Br.of (fun h3=>Go0 ?_) (fun h3=>Go0 ?_)
    ·have w0 := Qa (↑k + 1) (by omega) (by omega)
     have w1 : IntKind.i64.wrap (↑k - 1) = ↑k - 1 := Qa _ (by omega) (by omega)
     refine Dr.mk hΓ hMix (by kernel_rfl) (Go0 ?_)
     refine CallP.auto Qm7 (Qnd (l.getD k default) next ) (Go0 ?_)
     have e1 : QX l next (k + 1) = if Qam (l.getD k default) next = 0 then if 0 < k ∧ (l.getD k default).block ≤ (l.getD (k - 1) default).block then 17 else 0 else Qam (l.getD k default) next := by
      simp only [QX]; rw [if_pos hk2]
     by_cases h4 : Qam (l.getD k default) next = 0
     ·refine Br.no (by simpa using h4) (Go0 ?_)
      refine Dr.mk hΓ hMix (by kernel_rfl) (Go0 ?_)
      by_cases h5 : 0 < k ∧ (l.getD k default).block ≤ (l.getD (k - 1) default).block
      ·refine Br.yes (by rw [decide_eq_true (by omega), w1, Int.toNat_natCast, show ((k : Int) - 1).toNat = k - 1 by omega]; exact decide_eq_true h5.2) (Go0 ?_)
       rw [if_pos h4, if_pos h5] at e1
       rw [Qb3 (by omega) e1 (by decide)]
       exact RM.i0
      ·refine Br.no ?_ ?_
       ·by_cases h6 : 0 < k
        ·rw [decide_eq_true (by omega), w1, Int.toNat_natCast, show ((k : Int) - 1).toNat = k - 1 by omega]
         exact decide_eq_false fun z => h5 ⟨h6, z⟩
        ·rw [decide_eq_false (by omega)]; rfl
       ·refine Go0 ?_
        rw [if_pos h4, if_neg h5] at e1
        refine ⟨k + 1, ⟨by omega, e1⟩, by omega, ?_⟩
        exact Mv.k0
     ·refine Br.yes (by simpa using h4) (Go0 ?_)
      rw [if_neg h4] at e1
      rw [Qb3 (by omega) e1 h4]
      exact RM.i0
    ·have : k = l.length := by omega
     subst this
     rw [hk2]
     exact RM.i0
 ·refine Br.yes (Decidable.byContradiction fun z => h1 (by simp at z; omega)) (Go0 ?_)
  rw [show QJ seq next cut l = 1 by unfold QJ; rw [if_neg h1]]
  exact RM.i0
theorem QmR : HB 111 := hB Tryz.func111
theorem Qeu (l : List Rec) : ∀ k, (QU l k).size ≤ 36 * k
 | 0 => Nat.zero_le _
 | k + 1 => by
  have h1 := Qeu l k
  simp only [QU]
  split
  ·rw [ByteArray.size_append, ByteArray.size_extract]
   omega
  ·omega
theorem Qry (l : List Rec) (hl : l.length ≤ 1000) : PS 113 [.c (Qck l)] (.c (.str (Qdq l))) := by
 refine PSpec.rm ?_
 refine ov0 hΓ Tryz.func113 31 0 [.tmp 2] Tryz.ntmps113 Tryz.results113 ?_
 refine Lp.mkK hΓ (ι := Nat) [0, 2] (fun k => [(4, .c (.int .i64 k)), (3, .c (.str (QU l k)))]) (fun k => []) (fun k => k ≤ l.length) (fun k => l.length - k) 0 (Nat.zero_le _) ?_ ?_
 ·exact Mv.k0
 ·intro k hk
  refine Go1 fun _h=>?_
  refine Br.of (fun h1=>Go0 ?_) (fun h1=>Go0 ?_)
  ·have w0 := Qa (↑k + 1) (by omega) (by omega)
   have hb := Qeu l k
   refine CallN.pureA Qfn (Qfm (l.getD k default) ) (Go0 ?_)
   by_cases h2 : QC (l.getD k default) = 0
   ·have hz := QgY h2
    refine Br.yes (by simpa using h2) (Go0 ?_)
    refine ⟨k + 1, by omega, by omega, ?_⟩
    rw [show QU l (k + 1) = QU l k ++ (encR (l.getD k default)).extract 0 36 from if_pos h2]
    exact Mv.k0
   ·refine Br.no (by simpa using h2) (Go0 ?_)
    refine ⟨k + 1, by omega, by omega, ?_⟩
    rw [show QU l (k + 1) = QU l k from if_neg h2]
    exact Mv.k0
  ·have : k = l.length := by omega
   subst this
   have hb := Qeu l l.length
   refine CallN.pureA Qir (Qij (QU l l.length) (by omega) ) (Go0 ?_)
   have hu := QhI 0 (QU l l.length)
   have w0 : sumW (QU l l.length) = addU 0 (QU l l.length) := Qa _ (by omega) (by omega)
   refine CallN.pureA Qmj (Qn6 (sumW (QU l l.length)) (by rw [w0]; omega) ) (Go0 ?_)
   exact RM.i0
theorem Qrq : HB 113 := hB Tryz.func113
theorem QhM {l : List Rec} {x : Rec} {t : List C} {n i j : Nat} (hn : n = l.length) (hi : i < l.length + 1) (hj : j < 5) : appG (recG l) n (Q4 5 (C.int .i64 x.kind :: C.int .i64 x.block :: C.int .i64 x.version :: C.int .i64 x.move :: C.str x.payload :: t)) i j = recG (l ++ [x]) i j :=
 Qd7 (f := QaK) hn (fun j hj => by
  match j, hj with
  | 0, _ => rfl
  | 1, _ => rfl
  | 2, _ => rfl
  | 3, _ => rfl
  | 4, _ => rfl) hi hj
theorem Qc3 {seq next cut : Int} {l : List Ent} (h : QJ seq next cut l = 0) : (1 ≤ seq ∧ seq < 1099511627776 ∧ 1 ≤ next ∧ next ≤ 1099511627776 ∧ 1 ≤ cut ∧ cut ≤ next) ∧ l.length ≤ 128 ∧ QX l next l.length = 0 := by
 unfold QJ at h
 split at h
 ·rename_i h1
  split at h
  ·cases h
  ·exact ⟨h1, by omega, h⟩
 ·cases h
theorem Qd8 {l : List Ent} {n : Int} : ∀ {k}, QX l n k = 0 → ∀ i, i < k → Qam (l.getD i default) n = 0
 | 0, _ => fun i hi => absurd hi (Nat.not_lt_zero _)
 | k + 1, h => by
  simp only [QX] at h
  split at h
  ·rename_i h1
   split at h
   ·rename_i h2
    exact QbA (Qd8 h1) h2
   ·rename_i h2; exact absurd h h2
  ·rename_i h1; exact absurd h h1
theorem Qg0 {e : Ent} {n : Int} (h : Qam e n = 0) : e.kind = 1 ∧ 0 ≤ e.block ∧ e.block < 128 ∧ 1 ≤ e.version ∧ e.version < n ∧ 0 ≤ e.move ∧ e.move ≤ 255 ∧ 0 ≤ e.zone ∧ e.zone < 32 ∧ 0 ≤ e.offset ∧ e.offset < 64 := by
 unfold Qam at h
 split at h
 ·rename_i h1
  split at h
  ·rename_i h2; exact ⟨h1, h2⟩
  ·cases h
 ·cases h
theorem Qpm (l : List Rec) (n : Nat) (hn : n = l.length) (hl : n ≤ 1000) : CS 113 [.c (.sl 0 5 n n false)] [.arr 50 5 n (recG l)] fun s H => s = .c (.str (Qdq l)) ∧ H = [.arr 50 5 n (recG l)] := by
 subst hn
 exact CSpec.reads (Qry l hl) (BwA.cons (BwS.c (Bw.sl rfl rfl (fun i _ j _ => Bw.same (Qar _ _)) (fun e => by cases e))) BwA.nil) rfl ⟨rfl, rfl⟩
theorem Qoa : HB 113 := Qrq
set_option maxHeartbeats 4000000 in
theorem Qlx (seq next cut : Int) (l : List Ent) (hl : l.length ≤ 1000000) : PS 76 [.a (QlT seq next cut l)] (.t [.inl (Qck (Qa4 seq next cut l)), .inl (.int .i64 (QJ seq next cut l))]) := by
 refine PSpec.rm ?_
 refine ov0 hΓ Tryz.func76 67 0 [.tmp 2, .tmp 3] Tryz.ntmps76 Tryz.results76 ?_
 refine CallN.pureA QmR (Qmt seq next cut l (by omega) ) (Go0 ?_)
 by_cases h0 : QJ seq next cut l = 0
 ·refine Br.no (by simpa using h0) (Go1 fun _h=>?_)
  obtain ⟨h1, h2, h3⟩ := Qc3 h0
  have p1 := Qp next 6
  have p2 := Qp cut 6
  refine Dr.mk hΓ hMix (by kernel_rfl) (Go0 ?_)
  refine CallP.auto Qhj (Qhr next (by omega) ) (Go0 ?_)
  refine CallP.auto Qhj (Qhr cut (by omega) ) (Go0 ?_)
  refine Lp.mkK hΓ (ι := Nat) [1, 2, 3, 5] (fun k => [(6, .c (.sl 1 5 (k + 1) (k + 1) false)), (7, .c (.int .i64 k))]) (fun k => [.vr (QlT seq next cut l), .arr 50 5 (k + 1) (recG (Qbz seq next cut l :: (l.take k).map QbL))]) (fun k => k ≤ l.length) (fun k => l.length - k) 0 (Nat.zero_le _) ?_ ?_
  ·refine Mv.k2 ?_ ?_
   ·intro i hi j hj
    refine WC.eq ?_ (Qar _ _)
    have : i = 0 := by omega
    subst this
    match j, hj with
    | 0, _ => rfl
    | 1, _ => rfl
    | 2, _ => rfl
    | 3, _ => rfl
    | 4, _ => rfl
   ·exact WC.slA (hx := fun e => by cases e)
  ·intro k hk
   have hlk : (Qbz seq next cut l :: (l.take k).map QbL).length = k + 1 := by simp; omega
   refine Go0 ?_
   refine Br.of (fun h4=>Go0 ?_) (fun h4=>Go0 ?_)
   ·have he := Qg0 (Qd8 h3 k (by omega))
    have w0 := Qa (↑k + 1) (by omega) (by omega)
    have p3 := Qp (l.getD k default).zone 2
    have p4 := Qp (l.getD k default).offset 2
    refine Dr.mkE hΓ hMix [4294967296] [] (by kernel_rfl) (Go0 ?_)
    refine CallP.auto Qhm (Qg2 (l.getD k default).zone (by omega) ) (Go0 ?_)
    refine CallP.auto Qhm (Qg2 (l.getD k default).offset (by omega) ) (Go0 ?_)
    refine ⟨k + 1, by omega, by omega, ?_⟩
    refine Mv.k1 ?_
    ·intro i hi j hj
     refine WC.eq ((QhM (x := QbL (l.getD k default)) hlk.symm (by rw [hlk]; exact hi) hj).trans ?_) ?_
     ·rw [Q6 l (by omega), List.map_append]; rfl
     ·exact Qar _ _
   ·have : k = l.length := by omega
    subst this
    rw [List.take_length] at *
    refine Dr.mkE hΓ hMix [4294967296, 113] [(0, 5), (1, 5), (2, 5), (3, 5)] (by kernel_rfl) (Go0 ?_)
    refine CallE.autoI [1] Qoa (Qpm (Qbz seq next cut l :: List.map QbL l) (l.length + 1) hlk.symm (by omega)) plh (Go0 ?_)
    rw [h0, show Qa4 seq next cut l = QbN seq next cut l ++ [⟨6, l.length, seq, 0, Qdq (QbN seq next cut l)⟩] from if_pos h0]
    exact RM.allT (FwT.consC (Fw.slP rfl rfl (by simp [QbN]) (fun i hi j hj => QhM (x := ⟨6, l.length, seq, 0, Qdq (QbN seq next cut l)⟩) hlk.symm (by rw [hlk]; exact hi) hj) (fun i j => Qar _ _)) (FwT.consC (Fw.same rfl) FwT.nil))
 ·refine Br.yes (by simpa using h0) (Go0 ?_)
  rw [show Qa4 seq next cut l = [] from if_neg h0]
  exact RM.i0
theorem QlH : HB 76 := hB Tryz.func76
theorem Qei (b : ByteArray) (p n : Nat) (h1 : 1 ≤ n) (h7 : n ≤ 7) (hp : p ≤ 1000) (hb : b.size ≤ 10000000) : PS 165 [.c (.str b), .c (.int .i64 p), .c (.int .i64 n)] (.c (.int .i64 (getS b p n))) := by
 refine PSpec.rm ?_
 refine ov0 hΓ Tryz.func165 17 0 [.tmp 6] Tryz.ntmps165 Tryz.results165 ?_
 refine CallN.pureA Qkq (Qki b p n h1 h7 hp hb ) (Go0 ?_)
 exact RM.i0
theorem Qeh : HB 165 := hB Tryz.func165
theorem QcF {α : Type} [Inhabited α] {a b : List α} (hl : a.length = b.length) (h : ∀ j, j < a.length → a.getD j default = b.getD j default) : a = b :=
 List.ext_getElem hl fun i h1 h2 => by
  have := h i h1
  rwa [Qcf a i h1, Qcf b i h2] at this
theorem rec_cond {a b : Rec} : ((decide (a.kind = b.kind) && (decide (a.block = b.block) && (decide (a.version = b.version) && (decide (a.move = b.move) && (decide (a.payload = b.payload) && true))))) == false) = !decide (a = b) := by
 obtain ⟨a1, a2, a3, a4, a5⟩ := a
 obtain ⟨b1, b2, b3, b4, b5⟩ := b
 simp
set_option maxHeartbeats 2000000 in
theorem Qly (a b : List Rec) (ha : a.length ≤ 1000000) (hb : b.length ≤ 1000000) : PS 166 [.c (Qck a), .c (Qck b)] (.c (.bool (decide (a = b)))) := by
 refine PSpec.rm ?_
 refine ov hΓ Tryz.func166 26 0 [.tmp 4] Tryz.ntmps166 Tryz.results166 ?_
 refine Go2 fun _h _h=>?_
 by_cases h : a.length = b.length
 ·refine Br.no (by simp; omega) (Go0 ?_)
  refine Lp.mkK hΓ (ι := Nat) [0, 1] (fun k => [(5, .c (.int .i64 k))]) (fun k => []) (fun k => k ≤ a.length ∧ ∀ j, j < k → a.getD j default = b.getD j default) (fun k => a.length - k) 0 ⟨Nat.zero_le _, fun i hi => absurd hi (Nat.not_lt_zero _)⟩ ?_ ?_
  ·exact Mv.k0
  ·rintro k ⟨hk, hk2⟩
   refine Go1 fun _h=>?_
   refine Br.of (fun h1=>Go0 ?_) (fun h1=>Go0 ?_)
   ·have w0 := Qa (↑k + 1) (by omega) (by omega)
    refine Dr.mk hΓ hMix (by kernel_rfl) (Go0 ?_)
    by_cases c : a.getD k default = b.getD k default
    ·refine Br.no (rec_cond.trans (by show (!decide (a.getD k default = b.getD k default)) = false; rw [decide_eq_true c]; rfl)) (Go0 ?_)
     refine ⟨k + 1, ⟨by omega, fun j hj => ?_⟩, by omega, ?_⟩
     ·rcases Nat.lt_succ_iff_lt_or_eq.1 hj with q | rfl
      ·exact hk2 j q
      ·exact c
     ·exact Mv.k0
    ·refine Br.yes (rec_cond.trans (by show (!decide (a.getD k default = b.getD k default)) = true; rw [decide_eq_false c]; rfl)) (Go0 ?_)
     rw [decide_eq_false (fun e : a = b => c (by rw [e]))]
     exact RM.i0
   ·have : k = a.length := by omega
    subst this
    rw [decide_eq_true (QcF h hk2)]
    exact RM.i0
 ·refine Br.yes (by simp; omega) (Go0 ?_)
  rw [decide_eq_false (fun e : a = b => h (by rw [e]))]
  exact RM.i0
theorem Qls : HB 166 := hB Tryz.func166
theorem QkQ (b : Bas) (hl : b.ents.length ≤ 1000000) : PS 76 [.a b.cells] (.t [.inl (Qck (Qa4 b.seq b.next b.cut b.ents)), .inl (.int .i64 (QJ b.seq b.next b.cut b.ents))]) := Qlx b.seq b.next b.cut b.ents hl
theorem Qkg : HB 76 := QlH
theorem Qii {l : List Ent} {x : Ent} {t : List C} {n i j : Nat} (hn : n = l.length) (hi : i < l.length + 1) (hj : j < 6) : appG (entG l) n (Q4 6 (C.int .i64 x.block :: C.int .i64 x.kind :: C.int .i64 x.version :: C.int .i64 x.move :: C.int .i64 x.zone :: C.int .i64 x.offset :: t)) i j = entG (l ++ [x]) i j :=
 Qd7 (f := Ent.cell) hn (fun j hj => by
  match j, hj with
  | 0, _ => rfl
  | 1, _ => rfl
  | 2, _ => rfl
  | 3, _ => rfl
  | 4, _ => rfl
  | 5, _ => rfl) hi hj
def QbZ (l : List Rec) (k : Nat) : List Ent := ((l.drop 1).take k).map entD
theorem QmL {l : List Rec} {k : Nat} (hk : k + 1 < l.length) : QbZ l (k + 1) = QbZ l k ++ [entD (l.getD (k + 1) default)] := by
 unfold QbZ
 have hd : k < (l.drop 1).length := by rw [List.length_drop]; omega
 rw [Q6 (l.drop 1) hd, List.map_append]
 have : (l.drop 1).getD k default = l.getD (k + 1) default := by
  simp only [List.getD, List.getElem?_drop]
  rw [Nat.add_comm]
 rw [this]
 rfl
theorem Qeo {l : List Rec} {k : Nat} (hk : k + 1 ≤ l.length) : (QbZ l k).length = k := by
 unfold QbZ
 rw [List.length_map, List.length_take, List.length_drop]
 omega
theorem Qk9 (seq next cut : Int) (l : List Ent) : (Qa4 seq next cut l).length ≤ l.length + 2 := by
 unfold Qa4 QbN
 split <;> simp
set_option maxHeartbeats 4000000 in
theorem QlG (l : List Rec) (hl : l.length ≤ 100000) (hp : ∀ i, (l.getD i default).payload.size ≤ 1000) : PS 148 [.c (Qck l)] (.t [.inr (Qao l).cells, .inl (.int .i64 (QaU l))]) := by
 refine PSpec.rm ?_
 refine ov hΓ Tryz.func148 83 0 [.cell 2 57, .tmp 3] Tryz.ntmps148 Tryz.results148 ?_
 refine Go1 fun _h=>?_
 by_cases h : 2 ≤ l.length
 ·refine Br.no (by simp; omega) (Go0 ?_)
  have h0 := hp 0
  refine Dr.mk hΓ hMix (by kernel_rfl) (Go0 ?_)
  refine CallP.auto Qeh (Qei (l.getD 0 default).payload 0 6 (by decide) (by decide) (by decide) (by omega) ) (Go0 ?_)
  refine CallP.auto Qeh (Qei (l.getD 0 default).payload 6 6 (by decide) (by decide) (by decide) (by omega) ) (Go0 ?_)
  have hmid : midL l = (l.drop 1).take (l.length - 2) := rfl
  have hraw : (midL l).map entD = QbZ l (l.length - 2) := rfl
  have hml : (QbZ l (l.length - 2)).length = l.length - 2 := Qeo (by omega)
  refine Lp.mkK hΓ (ι := Nat) [0, 2, 3, 4] (fun k => [(5, .c (.int .i64 (k + 1)))]) (fun k => [.vr (default : Bas).cells, .vr [.int .i64 (l.getD 0 default).version, .int .i64 (getS (l.getD 0 default).payload 0 6), .int .i64 (getS (l.getD 0 default).payload 6 6), .sl 2 6 k k false], .arr 67 6 k (entG (QbZ l k))]) (fun k => k + 2 ≤ l.length) (fun k => l.length - k) 0 (by omega) ?_ ?_
  ·refine (Mv.reserveO 1 3 67 6 (entG []) rfl rfl rfl rfl).trans ?_
   exact Mv.k0
  ·intro k hk
   have w0 := Qa (((k : Int) + 1) + 1) (by omega) (by omega)
   refine Go1 fun _h=>?_
   refine Br.of (fun h1=>Go0 ?_) (fun h1=>Go0 ?_)
   ·have hpk := hp (k + 1)
    refine Dr.mkE hΓ hMix [4294967296] [] (by kernel_rfl) (Go0 ?_)
    refine CallP.auto Qeh (Qei (l.getD (k + 1) default).payload 0 2 (by decide) (by decide) (by decide) (by omega) ) (Go0 ?_)
    refine CallP.auto Qeh (Qei (l.getD (k + 1) default).payload 2 2 (by decide) (by decide) (by decide) (by omega) ) (Go0 ?_)
    refine ⟨k + 1, by omega, by omega, ?_⟩
    rw [QmL (by omega)]
    refine Mv.k1 ?_
    exact fun i hi j hj => WC.eq (Qii (x := entD (l.getD (k + 1) default)) (Qeo (by omega)).symm (by rw [Qeo (by omega)]; exact hi) hj) (QK _ _)
   ·have hk2 : k = l.length - 2 := by omega
    subst hk2
    refine CallN.fzK 2 [0, 2, 3, 4] [] [.vr (default : Bas).cells, .vr [.int .i64 (l.getD 0 default).version, .int .i64 (getS (l.getD 0 default).payload 0 6), .int .i64 (getS (l.getD 0 default).payload 6 6), QQ (QbZ l (l.length - 2))], .dead] [.a [.int .i64 (l.getD 0 default).version, .int .i64 (getS (l.getD 0 default).payload 0 6), .int .i64 (getS (l.getD 0 default).payload 6 6), QQ (QbZ l (l.length - 2))]] rfl leN (fun i _ j _ => QK _ _) wb0 wb0 wb0 leN ?_
    have hrl : (QB l).ents.length ≤ 100000 := by
     show ((midL l).map entD).length ≤ _
     rw [hraw, hml]; omega
    have hen := Qk9 (QB l).seq (QB l).next (QB l).cut (QB l).ents
    refine CallN.pureA Qkg (QkQ (QB l) (by omega) ) (Go0 ?_)
    refine CallG.auto Qls (fun _ => Qly l (Qa4 (QB l).seq (QB l).next (QB l).cut (QB l).ents) (by omega) (by omega) ) (Go0 ?_)
    by_cases c : QJ (QB l).seq (QB l).next (QB l).cut (QB l).ents = 0 ∧ l = Qa4 (QB l).seq (QB l).next (QB l).cut (QB l).ents
    ·refine Br.no (Bool.eq_false_iff.2 fun q => by rw [c.1, decide_eq_true c.2] at q; cases q) (Go0 ?_)
     have e : QaU l = 0 := if_pos ⟨h, c.1, c.2⟩
     rw [show Qao l = QB l from if_pos e, e]
     exact RM.i0
    ·refine Br.yes (Decidable.byContradiction fun q => c ?_) ?_
     ·by_cases c1 : QJ (QB l).seq (QB l).next (QB l).cut (QB l).ents = 0
      ·refine ⟨c1, Decidable.byContradiction fun c2 => q ?_⟩
       rw [c1, decide_eq_false c2]; rfl
      ·exact absurd (by rw [bne_iff_ne.2 c1]; rfl) q
     ·refine Go0 ?_
      have e : QaU l = 3 := if_neg fun z => c ⟨z.2.1, z.2.2⟩
      rw [show Qao l = default from if_neg (by rw [e]; decide), e]
      exact RM.i0
 ·refine Br.yes (by simp; omega) (Go0 ?_)
  have e : QaU l = 3 := if_neg fun q => h q.1
  rw [show Qao l = default from if_neg (by rw [e]; decide), e]
  exact RM.i0
theorem Qlu : HB 148 := hB Tryz.func148
theorem Qkm (l : List Rec) : (Qao l).ents.length ≤ l.length := by
 unfold Qao
 split
 ·show ((midL l).map entD).length ≤ _
  unfold midL
  rw [List.length_map, List.length_take]
  rw [List.length_drop]
  omega
 ·exact Nat.zero_le _
theorem whole_cond {e m : Int} {L : List Ent} : (bif (bif e != 0 then true else decide ((L.length : Int) > m)) then true else bif decide ((L.length : Int) > 0) then decide ((L.getD ((L.length : Int) - 1).toNat default).block ≥ m) else false) = true ↔ ¬ (e = 0 ∧ (L.length : Int) ≤ m ∧ (0 < L.length → (L.getD (L.length - 1) default).block < m)) := by
 rw [show ((L.length : Int) - 1).toNat = L.length - 1 by omega]
 generalize (L.getD (L.length - 1) default).block = b
 generalize L.length = n
 by_cases h1 : e = 0 <;> by_cases h2 : (n : Int) ≤ m <;> by_cases h3 : 0 < n <;> by_cases h4 : b < m <;> simp [h1, h2, h3, h4, Bool.cond_eq_ite] <;> omega
set_option maxHeartbeats 2000000 in
theorem QmB (c : Conf) (l : List Rec) (hl : l.length ≤ 100000) (hp : ∀ i, (l.getD i default).payload.size ≤ 1000) : PS 104 [.a c.cells, .c (Qck l)] (.t [.inr (Qa9 c l).cells, .inl (.int .i64 (Qa8 c l))]) := by
 have hd := Qkm l
 refine PSpec.rm ?_
 refine ov0 hΓ Tryz.func104 45 0 [.cell 4 57, .tmp 5] Tryz.ntmps104 Tryz.results104 ?_
 refine CallN.pureA Qlu (QlG l hl hp ) (Go0 ?_)
 have w1 : IntKind.i64.wrap (((Qao l).ents.length : Int) - 1) = ((Qao l).ents.length : Int) - 1 := Qa _ (by omega) (by omega)
 refine Dr.mk hΓ hMix (by kernel_rfl) (Go0 ?_)
 by_cases c1 : QaU l = 0 ∧ (Qao l).ents.length ≤ c.blocks ∧ (0 < (Qao l).ents.length → ((Qao l).ents.getD ((Qao l).ents.length - 1) default).block < c.blocks)
 ·refine Br.no (Bool.eq_false_iff.2 fun q => whole_cond.1 (by rw [w1] at q; exact q) c1) (Go0 ?_)
  have e : Qa8 c l = 0 := if_pos c1
  rw [show Qa9 c l = Qao l from if_pos e, e]
  exact RM.i0
 ·refine Br.yes (by rw [w1]; exact whole_cond.2 c1) (Go0 ?_)
  have e : Qa8 c l = 3 := if_neg c1
  rw [show Qa9 c l = default from if_neg (by rw [e]; decide), e]
  exact RM.i0
theorem QnX : HB 104 := hB Tryz.func104
end Go.Proofs
end
