/- Contracts, lemmas; no condition. -/
import Derived.Test.YtmollgldghpbkaaGreatCtDV
import Derived.Test.YtmollgldghpbkaaGreatModBV
set_option linter.all false
section
open Go Go.Am
namespace Go.Proofs
set_option maxRecDepth 20000
def keyI : Key → Int
 | .c (.i _ n) => n
 | _ => 0
@[simp] theorem keyI_i {q : IntKind} {n : Int} : keyI (.c (.i q n)) = n := rfl
def keyN (n : Int) : Key := .c (.i .i64 n)
def setO (l : List Int) : O := .mp (.c (some .i64)) [.b] false (l.map keyN) fun k _ => .bool (decide (keyI k ∈ l))
def insS (l : List Int) (n : Int) : List Int := if n ∈ l then l else l ++ [n]
theorem QvD {l : List Int} {n : Int} : memK (l.map keyN) (.c (.i .i64 n)) = decide (n ∈ l) := by
 unfold memK keyN
 congr 1
 simp only [List.mem_map, Key.c.injEq, KC.i.injEq, true_and, eq_iff_iff]
 exact ⟨fun ⟨a, h1, h2⟩ => h2 ▸ h1, fun h => ⟨n, h, rfl⟩⟩
theorem Qvu {l : List Int} {n : Int} : updK (l.map keyN) (.c (.i .i64 n)) = (insS l n).map keyN := by
 unfold updK insS
 rw [QvD]
 by_cases h : n ∈ l
 ·rw [if_pos h, decide_eq_true h]
 ·rw [if_neg h, decide_eq_false h]
  simp [keyN]
theorem mem_insS {l : List Int} {n x : Int} : x ∈ insS l n ↔ x = n ∨ x ∈ l := by
 unfold insS
 split
 ·rename_i h
  exact ⟨Or.inr, fun e => e.elim (fun e => e ▸ h) id⟩
 ·simp [or_comm]
theorem QvI {l : List Int} {n : Int} {k : Key} {j : Nat} (hk : k.sh = .c (some .i64)) (hj : j < 1) : updV (fun k (_ : Nat) => C.bool (decide (keyI k ∈ l))) (.c (.i .i64 n)) (lget [.bool true]) k j = C.bool (decide (keyI k ∈ insS l n)) := by
 have : j = 0 := by omega
 subst this
 match k, hk with
 | .c (.i q x), hk =>
  cases hk
  simp only [updV, Key.c.injEq, KC.i.injEq, true_and, keyI_i]
  by_cases c : x = n
  ·rw [if_pos c]
   show C.bool true = _
   congr 1
   exact (decide_eq_true (mem_insS.2 (Or.inl c))).symm
  ·rw [if_neg c]
   congr 1
   refine decide_eq_decide.2 ⟨fun h => mem_insS.2 (Or.inr h), fun h => (mem_insS.1 h).elim (fun e => absurd e c) id⟩
theorem QtX {l : List Int} {n : Int} (h : n ∉ l) : insS l n = l ++ [n] := if_neg h
theorem Qgz {ρ : Nat → Nat} {m : Nat} {l : List Int} {n : Int} : WO ρ m (.mp (.c (some .i64)) [.b] false (updK (l.map keyN) (.c (.i .i64 n))) (updV (fun k (_ : Nat) => C.bool (decide (keyI k ∈ l))) (.c (.i .i64 n)) (lget [.bool true]))) (setO (insS l n)) :=
 WO.mp rfl rfl rfl Qvu fun k j hk hj => leF.of_eq (QvI hk hj)
theorem epochsOk_iff {g : Int} {p : List Int} {r : List Ret} : QA g p r = true ↔ (1 ≤ p.length ∧ p.length ≤ 4 ∧ 0 ≤ g ∧ g ≤ 1099511627776) ∧ (∀ i, i < p.length → p.getD i default = -1 ∨ 0 ≤ p.getD i default ∧ (p.getD i default = g ∨ p.getD i default = g - 1)) ∧
  (∀ i, i < r.length → 0 ≤ (r.getD i default).zone ∧ 0 ≤ (r.getD i default).epoch ∧ (r.getD i default).epoch ≤ g ∧ ∀ j, j < i → (r.getD j default).zone ≠ (r.getD i default).zone) := by
 unfold QA Qnt Qmx
 rw [Bool.and_eq_true, Bool.and_eq_true, decide_eq_true_eq, decide_eq_true_eq, decide_eq_true_eq]
theorem pinB {x g : Int} (wg : IntKind.i64.wrap (g - 1) = g - 1) : (bif x != -1 then (bif decide (x < 0) then true else bif x != g then x != IntKind.i64.wrap (g - 1) else false) else false) = !decide (x = -1 ∨ 0 ≤ x ∧ (x = g ∨ x = g - 1)) := by
 rw [wg, Bool.eq_iff_iff]
 have b1 : ∀ y : Int, (x != y) = true ↔ x ≠ y := fun y => bne_iff_ne
 simp only [Bool.cond_false_right, Bool.cond_true_left, Bool.and_eq_true, Bool.or_eq_true, b1, decide_eq_true_eq, Bool.not_eq_true', decide_eq_false_iff_not]
 omega
theorem retB {z e g : Int} {b : Bool} {P : Prop} (hb : b = true ↔ ¬ P) : (bif (bif (bif decide (z < 0) then true else b) then true else decide (e < 0)) then true else decide (e > g)) = false ↔ 0 ≤ z ∧ 0 ≤ e ∧ e ≤ g ∧ P := by
 by_cases h1 : z < 0
 ·simp [h1]; omega
 ·by_cases h2 : e < 0
  ·simp [h1, h2]; omega
  ·by_cases h3 : e > g
   ·simp [h1, h2, h3]; omega
   ·cases b with
    | true =>
     have := hb.1 rfl
     simp [h1, h2, h3, this]
    | false =>
     have : P := Classical.byContradiction fun q => by cases hb.2 q
     simp [h1, h2, h3, this]; omega
def QcR (r : List Ret) (k : Nat) : List Int := (r.take k).map Ret.zone
theorem QfA {r : List Ret} {k : Nat} (hk : k ≤ r.length) {n : Int} : n ∈ QcR r k ↔ ∃ j, j < k ∧ (r.getD j default).zone = n := by
 unfold QcR
 rw [List.mem_map]
 constructor
 ·rintro ⟨x, hx, rfl⟩
  obtain ⟨j, hj, rfl⟩ := List.getElem_of_mem hx
  rw [List.length_take] at hj
  refine ⟨j, om, ?_⟩
  simp [List.getD, show j < r.length by omega]
 ·rintro ⟨j, hj, rfl⟩
  refine ⟨r.getD j default, ?_, rfl⟩
  rw [List.mem_iff_getElem]
  exact ⟨j, by rw [List.length_take]; omega, by simp [List.getD, show j < r.length by omega]⟩
theorem Qnp {r : List Ret} {k : Nat} (hk : k < r.length) : QcR r (k + 1) = QcR r k ++ [(r.getD k default).zone] := by
 unfold QcR
 rw [QaJ r hk, List.map_append]; rfl
set_option maxHeartbeats 4000000 in
theorem QiT (g : Int) (p : List Int) (r : List Ret) (hp : p.length ≤ 1000000) (hr : r.length ≤ 1000000) : PS 197 [.a [.int .i64 g, Qi p, retC r]] (.c (.bool (QA g p r))) := by
 refine PSpec.rm ?_
 refine ov hΓ Tryz.func197 88 0 [.tmp 2] Tryz.ntmps197 Tryz.results197 ?_
 refine Go1 fun _h=>?_
 (first|refine Br.od (fun h=>?_) (fun h=>?_)|refine Br.mk (fun h=>?_) (fun h=>?_)<;>simp [-List.length_eq_zero_iff,-List.getD_eq_getElem?_getD] at h)<;>(try simp only [Int.toNat_natCast] at h)<;>(conv=>whnf)
 ·refine Go0 ?_
  rw [Qg (fun e => by have := (epochsOk_iff.1 e).1; omega : ¬ QA g p r = true)]
  exact RM.i0
 ·refine Go1 fun _h=>?_
  have h0 : 1 ≤ p.length ∧ p.length ≤ 4 ∧ 0 ≤ g ∧ g ≤ 1099511627776 := by omega
  have wg : IntKind.i64.wrap (g - 1) = g - 1 := Qa _ om om
  refine Lp.mkK hΓ (ι := Nat) [1, 29, 30] (fun i => [(31, .c (.int .i64 i))]) (fun _ => [.vr [.int .i64 g, Qi p, retC r]]) (fun k => k ≤ p.length ∧ ∀ i, i < k → p.getD i default = -1 ∨ 0 ≤ p.getD i default ∧ (p.getD i default = g ∨ p.getD i default = g - 1)) (fun i => p.length - i) 0 ⟨Nat.zero_le _, fun j hj => absurd hj (Nat.not_lt_zero _)⟩ ?_ ?_
  ·exact Mv.k0
  ·rintro k ⟨hk, hk2⟩
   refine Go0 ?_
   refine Br.of (fun h2=>Go0 ?_) (fun h2=>Go1 fun _h=>?_)
   ·have w0 := Qa (↑k + 1) om om
    by_cases e : p.getD k default = -1 ∨ 0 ≤ p.getD k default ∧ (p.getD k default = g ∨ p.getD k default = g - 1)
    ·refine Br.no ((pinB (x := p.getD k default) wg).trans (by rw [decide_eq_true e]; rfl)) (Go0 ?_)
     refine ⟨k + 1, ⟨om, QD hk2 e⟩, om, ?_⟩
     exact Mv.k0
    ·refine Br.yes ((pinB (x := p.getD k default) wg).trans (by rw [decide_eq_false e]; rfl)) (Go0 ?_)
     rw [Qg (fun q => e ((epochsOk_iff.1 q).2.1 k om) : ¬ QA g p r = true)]
     exact RM.i0
   ·have hpins : ∀ i, i < p.length → p.getD i default = -1 ∨ 0 ≤ p.getD i default ∧ (p.getD i default = g ∨ p.getD i default = g - 1) := fun i hi => hk2 i om
    clear hk hk2 h2
    refine Lp.mkK hΓ (ι := Nat) [1, 5, 57, 58] (fun i => [(59, .c (.int .i64 i))]) (fun k => [.vr [.int .i64 g, Qi p, retC r], setO (QcR r k)]) (fun k => k ≤ r.length ∧ ∀ i, i < k → 0 ≤ (r.getD i default).zone ∧ 0 ≤ (r.getD i default).epoch ∧ (r.getD i default).epoch ≤ g ∧ ∀ j, j < i → (r.getD j default).zone ≠ (r.getD i default).zone) (fun i => r.length - i) 0 ⟨Nat.zero_le _, fun j hj => absurd hj (Nat.not_lt_zero _)⟩ ?_ ?_
    ·refine Mv.k1 ?_
     intro k j _ hj
     have : j = 0 := by simpa using hj
     subst this
     exact leF.of_eq rfl
    ·rintro q ⟨hq, hq2⟩
     refine Go0 ?_
     refine Br.of (fun h3=>Go0 ?_) (fun h3=>Go0 ?_)
     ·have w0 := Qa (↑q + 1) om om
      have hmem : decide ((r.getD q default).zone ∈ QcR r q) = true ↔ ¬ ∀ j, j < q → (r.getD j default).zone ≠ (r.getD q default).zone := by
       rw [decide_eq_true_eq, QfA om]
       constructor
       ·rintro ⟨j, h1, h2⟩ h3; exact h3 j h1 h2
       ·intro h
        refine Classical.byContradiction fun hn => h fun j hj e => hn ⟨j, hj, e⟩
      by_cases e : 0 ≤ (r.getD q default).zone ∧ 0 ≤ (r.getD q default).epoch ∧ (r.getD q default).epoch ≤ g ∧ ∀ j, j < q → (r.getD j default).zone ≠ (r.getD q default).zone
      ·refine Br.no ((retB hmem).2 e) (Go0 ?_)
       refine ⟨q + 1, ⟨om, QD hq2 e⟩, om, ?_⟩
       refine Mv.k1 ?_
       rw [Qnp om, ← QtX (fun h => (QfA om).1 h |>.elim fun j hj => e.2.2.2 j hj.1 hj.2)]
       exact Qgz
      ·refine Br.yes ?_ ?_
       ·cases hx : (bif (bif (bif decide ((r.getD q default).zone < 0) then true else decide ((r.getD q default).zone ∈ QcR r q)) then true else decide ((r.getD q default).epoch < 0)) then true else decide ((r.getD q default).epoch > g)) with
        | true => exact hx
        | false => exact absurd ((retB hmem).1 hx) e
       refine Go0 ?_
       rw [Qg (fun z => e ((epochsOk_iff.1 z).2.2 q om) : ¬ QA g p r = true)]
       exact RM.i0
     ·rw [epochsOk_iff.2 ⟨h0, hpins, fun i hi => hq2 i om⟩]
      exact RM.i0
theorem QjU : HB 197 := hB Tryz.func197
theorem QoP (l : List Int) (v : Int) (hl : l.length ≤ 1000000) : PS 255 [.c (Qi l), .c (.int .i64 v)] (.c (.int .i64 (if l.any (fun x => decide (x = v)) = true then (l.findIdx (fun x => decide (x = v)) : Nat) else -1))) := by
 refine PSpec.rm ?_
 refine ov hΓ Tryz.func255 19 0 [.tmp 4] Tryz.ntmps255 Tryz.results255 ?_
 refine Go1 fun _h=>?_
 refine Lp.mkK hΓ (ι := Nat) [0, 1, 7] (fun i => [(8, .c (.int .i64 i))]) (fun _ => []) (fun i => i ≤ l.length ∧ ∀ j, j < i → (fun x => decide (x = v)) (l.getD j default) = false) (fun i => l.length - i) 0 ⟨Nat.zero_le _, fun j hj => absurd hj om⟩ ?_ ?_
 ·exact Mv.k0
 ·rintro k ⟨hk, hs⟩
  refine Go0 ?_
  refine Br.of (fun h1=>Go0 ?_) (fun h1=>Go0 ?_)
  ·refine Br.of (fun h2=>Go0 ?_) (fun h2=>Go0 ?_)
   ·obtain ⟨q1, q2⟩ := Qdh (p := fun x => decide (x = v)) (k := k) om (decide_eq_true (show l.getD k default = v from h2.symm)) hs
    rw [if_pos q1, q2]
    exact RM.i0
   ·have w0 := Qa (↑k + 1) om om
    refine ⟨k + 1, ⟨om, QD hs (decide_eq_false (fun e => h2 e.symm))⟩, om, ?_⟩
    exact Mv.k0
  ·rw [if_neg (QcF (fun j hj => hs j om))]
   exact RM.i0
theorem QoG : HB 255 := hB Tryz.func255
theorem QuW {l : List Int} {v : Int} : l.any (fun x => decide (x = v)) = decide (v ∈ l) := by
 rw [Bool.eq_iff_iff, List.any_eq_true, decide_eq_true_eq]
 constructor
 ·rintro ⟨x, h1, h2⟩; exact of_decide_eq_true h2 ▸ h1
 ·intro h; exact ⟨v, h, decide_eq_true rfl⟩
theorem Qkz (l : List Int) (v : Int) (hl : l.length ≤ 1000000) : PS 247 [.c (Qi l), .c (.int .i64 v)] (.c (.bool (decide (v ∈ l)))) := by
 refine PSpec.rm ?_
 refine ov0 hΓ Tryz.func247 9 0 [.tmp 4] Tryz.ntmps247 Tryz.results247 ?_
 refine CallN.pureA QoG (QoP l v hl ) (Go0 ?_)
 rw [← QuW]
 refine RM.i1 ?_
 cases l.any (fun x => decide (x = v)) with
 | true => simp
 | false => rfl
theorem QkJ : HB 247 := hB Tryz.func247
theorem Qlk (c : Conf) (free : List Int) (h l z : Int) (hf : free.length ≤ 1000000) : PS 228 [.a [Qi free, .int .i64 h, .int .i64 l], .a c.cells, .c (.int .i64 z)] (.c (.bool (QbY c free z))) := by
 refine PSpec.rm ?_
 refine ov0 hΓ Tryz.func228 21 0 [.tmp 6] Tryz.ntmps228 Tryz.results228 ?_
 refine CallG.auto QeM (fun _ => Qe6 c z ) (Go0 ?_)
 refine CallG.auto QkJ (fun _ => Qkz free z hf ) (Go0 ?_)
 refine RM.immW rfl (WS.c (WC.bool ?_))
 unfold QbY
 by_cases h1 : z = -1 <;> cases QO c z <;> by_cases h2 : z ∈ free <;> simp [h1, h2]
theorem Qlo : HB 228 := hB Tryz.func228
theorem QkI (c : Conf) (free : List Int) (h l : Int) (hf : free.length ≤ 1000000) : PS 198 [.a [Qi free, .int .i64 h, .int .i64 l], .a c.cells] (.c (.bool (poolOk c free h l))) := by
 refine PSpec.rm ?_
 refine ov0 hΓ Tryz.func198 61 0 [.tmp 4] Tryz.ntmps198 Tryz.results198 ?_
 refine CallN.pureA QfI (QfF c ) (Go0 ?_)
 by_cases h0 : Qw c = 0
 ·refine Br.no (by simp [h0]) (Go1 fun _h=>?_)
  refine Lp.mkK hΓ (ι := Nat) [2, 3, 11, 12] (fun i => [(13, .c (.int .i64 i))]) (fun _ => [.vr [Qi free, .int .i64 h, .int .i64 l], .vr c.cells]) (fun k => k ≤ free.length ∧ ∀ i, i < k → QO c (free.getD i default) = true ∧ (0 < i → free.getD (i - 1) default < free.getD i default)) (fun i => free.length - i) 0 ⟨Nat.zero_le _, fun j hj => absurd hj (Nat.not_lt_zero _)⟩ ?_ ?_
  ·exact Mv.k0
  ·rintro k ⟨hk, hk2⟩
   refine Go0 ?_
   refine Br.of (fun h2=>Go0 ?_) (fun h2=>Go0 ?_)
   ·refine CallN.pureA QeM (Qe6 c (free.getD k default) ) (Go0 ?_)
    have hw : IntKind.i64.wrap (↑k - 1) = ↑k - 1 := Qa _ om om
    refine Need.mk (fun h => by rw [hw]; simp only [Bool.and_eq_true, decide_eq_true_eq] at h; omega) ?_
    conv=>whnf
    refine Need.mk (fun h => by rw [hw]; simp only [Bool.and_eq_true, decide_eq_true_eq] at h; omega) (Go0 ?_)
    have hp : (IntKind.i64.wrap (↑k - 1)).toNat = k - 1 := by rw [hw]; omega
    have w0 := Qa (↑k + 1) om om
    by_cases e : QO c (free.getD k default) = true ∧ (0 < k → free.getD (k - 1) default < free.getD k default)
    ·refine Br.no ?_ ?_
     ·rw [hp, e.1]
      refine (Qh5 (k := k)).trans (decide_eq_false fun q => ?_)
      have := e.2 q.1
      have q2 : free.getD k default ≤ free.getD (k - 1) default := q.2
      omega
     refine Go0 ?_
     refine ⟨k + 1, ⟨om, QD hk2 e⟩, om, ?_⟩
     exact Mv.k0
    ·refine Br.yes ?_ ?_
     ·rw [hp]
      show (bif !QO c (free.getD k default) then true else bif decide ((k : Int) > 0) then decide (free.getD (k - 1) default ≥ free.getD k default) else false) = true
      cases h1 : QO c (free.getD k default) with
      | false => rfl
      | true =>
       have h0 : 0 < k := by
        rcases Nat.eq_zero_or_pos k with c | c
        ·exact absurd ⟨h1, fun q => by omega⟩ e
        ·exact c
       have h3 : free.getD k default ≤ free.getD (k - 1) default := by
        have : ¬ free.getD (k - 1) default < free.getD k default := fun q => e ⟨h1, fun _ => q⟩
        omega
       exact (Qh5 (k := k)).trans (decide_eq_true ⟨h0, h3⟩)
     refine Go0 ?_
     rw [show poolOk c free h l = false by
      unfold poolOk
      rw [show QdD c free = false from decide_eq_false (fun q => e (q k om))]
      simp]
     exact RM.i0
   ·have hfr : QdD c free = true := decide_eq_true fun i hi => hk2 i om
    refine CallN.pureA Qlo (Qlk c free h l h hf ) (Go0 ?_)
    refine CallG.auto Qlo (fun _ => Qlk c free h l l hf ) (Go0 ?_)
    refine RM.immW rfl (WS.c (WC.bool ?_))
    unfold poolOk
    rw [decide_eq_true h0, hfr]
    cases QbY c free h <;> cases QbY c free l <;> by_cases z1 : h = -1 <;> by_cases z2 : h = l <;> simp [z1, z2] <;> rfl
 ·refine Br.yes (by simp [h0]) (Go0 ?_)
  rw [show poolOk c free h l = false by unfold poolOk; rw [decide_eq_false h0]; rfl]
  exact RM.i0
theorem Qkk : HB 198 := hB Tryz.func198
end Go.Proofs
end

section
open Go Go.Am
namespace Go.Am
theorem QpL {cs : List C} {j : Nat} (hj : j < cs.length) : getL cs j = some (lget cs j) := by
 unfold lget
 rw [Qd, List.getElem?_eq_getElem hj]
theorem Bw.ptrL {H : List O} {id : Nat} {cs : List C} {n : Nat} (hid : getL H id = some (.vr cs)) (hn : n = cs.length) (hi : cs.all C.imm = true) : Bw H (.ptr id 0) (.ip n (lget cs)) := Bw.ptr hid fun j hj => by
 have hj' : j < cs.length := by omega
 refine ⟨lget cs j, by rw [Nat.zero_add]; exact QpL hj', Bw.same ?_⟩
 exact QeB hi (QpL hj')
end Go.Am
namespace Go.Proofs
set_option maxRecDepth 20000
def capP (c : Conf) : Nat → C := fun _ => .ip 6 (lget c.cells)
theorem Qsk (c : Conf) (e : Ent) : PS 194 [.a e.cells, .c (.ip 6 (lget c.cells))] (.c (.bool (decide (c.blocks ≤ e.block)))) := by
 refine PSpec.rm ?_
 refine ov0 hΓ Tryz.func194 9 0 [.tmp 3] Tryz.ntmps194 Tryz.results194 ?_
 exact RM.i0
theorem Qtw : HB 194 := hB Tryz.func194
theorem Qth (c : Conf) (l : List Ent) (hl : l.length ≤ 1000000) : PS 146 [.c (Qaw l), .c (.fn (.func 194) 1 (capP c))] (.c (.int .i64 (if l.any (fun (e : Ent) => decide (c.blocks ≤ e.block)) = true then (l.findIdx (fun (e : Ent) => decide (c.blocks ≤ e.block)) : Nat) else -1))) := by
 refine PSpec.rm ?_
 refine ov hΓ Tryz.func146 19 0 [.tmp 4] Tryz.ntmps146 Tryz.results146 ?_
 refine Go1 fun _h=>?_
 refine Lp.mkK hΓ (ι := Nat) [0, 1, 7] (fun i => [(8, .c (.int .i64 i))]) (fun _ => []) (fun i => i ≤ l.length ∧ ∀ j, j < i → (fun (e : Ent) => decide (c.blocks ≤ e.block)) (l.getD j default) = false) (fun i => l.length - i) 0 ⟨Nat.zero_le _, fun j hj => absurd hj om⟩ ?_ ?_
 ·refine Mv.k1 ?_
  exact WC.fnI (fun j _ => rfl)
 ·rintro k ⟨hk, hs⟩
  refine Go0 ?_
  refine Br.of (fun h1=>Go0 ?_) (fun h1=>Go0 ?_)
  ·refine CallN.pureA Qtw (Qsk c (l.getD k default) ) (Go0 ?_)
   cases hb : (fun (e : Ent) => decide (c.blocks ≤ e.block)) (l.getD k default) with
   | true =>
    refine Br.yes hb (Go0 ?_)
    obtain ⟨q1, q2⟩ := Qdh (p := fun (e : Ent) => decide (c.blocks ≤ e.block)) om hb hs
    rw [if_pos q1, q2]
    exact RM.i0
   | false =>
    refine Br.no hb (Go0 ?_)
    have w0 := Qa (↑k + 1) om om
    refine ⟨k + 1, ⟨om, QD hs hb⟩, om, ?_⟩
    refine Mv.k1 ?_
    exact WC.fnI (fun j _ => rfl)
  ·rw [if_neg (QcF (fun j hj => hs j om))]
   exact RM.i0
theorem Qs9 : HB 146 := hB Tryz.func146
theorem Qui (c : Conf) (l : List Ent) (hl : l.length ≤ 1000000) : PS 79 [.c (Qaw l), .c (.fn (.func 194) 1 (capP c))] (.c (.bool (l.any (fun (e : Ent) => decide (c.blocks ≤ e.block))))) := by
 refine PSpec.rm ?_
 refine ov0 hΓ Tryz.func79 9 0 [.tmp 4] Tryz.ntmps79 Tryz.results79 ?_
 refine CallN.reads Qs9 (Qth c l hl) (BwA.cons (BwS.c (Bw.same rfl)) (BwA.cons (BwS.c (Bw.fn fun j _ => Bw.same (rfl))) BwA.nil)) rfl (Go0 ?_)
 refine RM.i1 ?_
 cases l.any (fun (e : Ent) => decide (c.blocks ≤ e.block)) with
 | true => simp
 | false => rfl
theorem Quu : HB 79 := hB Tryz.func79
structure AllS (m : List (List Ent)) (l : List Ent) : Prop where
 spec : PS 80 [.a [QH m]] (.c (Qaw l))
 mem : ∀ e, e ∈ l ↔ ∃ i, i < m.length ∧ e ∈ m.getD i default
 len : l.length ≤ 1000000
theorem Qne : HB 80 := hB Tryz.func80
theorem AllS.big {m : List (List Ent)} {l : List Ent} (h : AllS m l) (n : Int) : (l.any fun (e : Ent) => decide (n ≤ e.block)) = !QaE m n := by
 rw [Bool.eq_iff_iff, Bool.not_eq_true']
 unfold QaE
 rw [List.any_eq_true, decide_eq_false_iff_not]
 constructor
 ·rintro ⟨e, h1, h2⟩ h3
  obtain ⟨i, hi, he⟩ := (h.mem e).1 h1
  obtain ⟨k, hk, rfl⟩ := List.getElem_of_mem he
  have := h3 i hi k hk
  rw [QaM _ _ hk] at this
  have := of_decide_eq_true h2
  omega
 ·intro h3
  refine Classical.byContradiction fun hn => h3 fun i hi k hk => ?_
  rw [QaM _ _ hk]
  refine Int.not_le.1 fun hle => hn ⟨_, (h.mem _).2 ⟨i, hi, List.getElem_mem hk⟩, decide_eq_true hle⟩
theorem neI {a b : Int} : (a != b) = !decide (a = b) := rfl
set_option maxHeartbeats 4000000 in
theorem QqJ (s : St) (hs : s.small) (l : List Ent) (hall : Qu s.map = true → AllS s.map l) : PS 139 [.a s.cells] (.c (.bool (QaH s))) := by
 refine PSpec.rm ?_
 refine ov0 hΓ Tryz.func139 154 0 [.tmp 2] Tryz.ntmps139 Tryz.results139 ?_
 refine CallN.pureA QfI (QfF s.cfg ) (Go0 ?_)
 refine CallG.auto Qj1 (fun _ => Qjg s.dev ) (Go0 ?_)
 have no : QaH s = false → RM 0 (.c (.bool false)) [.vr s.cells, .vr s.cfg.cells] (.c (.bool (QaH s))) [] := fun h => by rw [h]; refine RM.immW rfl ?_;(first|exact wb0|refine wb1 ?_|refine wb2 ?_ ?_|refine wb3 ?_ ?_ ?_|refine wb4 ?_ ?_ ?_ ?_)
 by_cases h1 : Qw s.cfg = 0 ∧ check s.dev = 0
 ·refine Br.no (by rw [neI, neI, decide_eq_true h1.1, decide_eq_true h1.2]; rfl) (Go1 fun _h=>?_)
  by_cases h2 : (s.dev.zones.length : Int) = s.cfg.zones ∧ s.dev.size = s.cfg.size
  ·refine Br.no (by rw [neI, neI, decide_eq_true h2.1, decide_eq_true h2.2]; rfl) (Go0 ?_)
   refine CallN.pureA QlK (Ql1 s.map hs.map hs.shard ) (Go0 ?_)
   by_cases h3 : Qu s.map = true ∧ (s.map.length : Int) = s.cfg.shards
   ·refine Br.no (by rw [neI, h3.1, decide_eq_true h3.2]; rfl) (Go0 ?_)
    have hA := hall h3.1
    refine CallN.pureA Qne hA.spec (Go0 ?_)
    refine CallN.reads Quu (Qui s.cfg l hA.len) (BwA.cons (BwS.c (Bw.same rfl)) (BwA.cons (BwS.c (Bw.fn1 (g := lget [.ptr 1 0]) (g' := capP s.cfg) (Bw.ptrL (cs := s.cfg.cells) rfl rfl rfl))) BwA.nil)) rfl (Go0 ?_)
    have hb := hA.big s.cfg.blocks
    by_cases h4 : QaE s.map s.cfg.blocks = true
    ·refine Br.no (hb.trans (by rw [h4]; rfl)) (Go0 ?_)
     refine CallN.pureA QkK (QkR s.live s.pend hs.live hs.pend ) (Go0 ?_)
     by_cases h5 : QC s.live s.pend = true ∧ (s.live.length : Int) = s.cfg.zones
     ·refine Br.no (by rw [neI, h5.1, decide_eq_true h5.2]; rfl) (Go0 ?_)
      refine CallN.pureA Qj7 (QjH s.owner hs.owner ) (Go0 ?_)
      by_cases h6 : Qaj s.owner = true ∧ (s.owner.length : Int) = s.cfg.shards
      ·refine Br.no (by rw [neI, h6.1, decide_eq_true h6.2]; rfl) (Go0 ?_)
       refine CallN.pureA QjU (QiT s.glob s.pins s.rets hs.pins hs.rets ) (Go0 ?_)
       by_cases h7 : QA s.glob s.pins s.rets = true ∧ (s.pins.length : Int) = s.cfg.queues
       ·refine Br.no (by rw [neI, h7.1, decide_eq_true h7.2]; rfl) (Go0 ?_)
        refine CallN.pureA Qkk (QkI s.cfg s.free s.host s.lane hs.free ) (Go0 ?_)
        by_cases h8 : poolOk s.cfg s.free s.host s.lane = true ∧ (s.rings.length : Int) = s.cfg.queues ∧ (s.works.length : Int) = s.cfg.queues
        ·refine Br.no (by rw [neI, neI, h8.1, decide_eq_true h8.2.1, decide_eq_true h8.2.2]; rfl) (Go0 ?_)
         refine RM.immW rfl (WS.c (WC.bool ?_))
         unfold QaH
         rw [decide_eq_true h1.1, decide_eq_true h1.2, decide_eq_true h2, h3.1, decide_eq_true h3.2, h4, h5.1, decide_eq_true h5.2, h6.1, decide_eq_true h6.2, h7.1, decide_eq_true h7.2, h8.1, decide_eq_true h8.2]
         simp only [Bool.true_and]
         rw [Bool.eq_iff_iff]
         simp only [Bool.cond_false_right, Bool.and_eq_true, decide_eq_true_eq]
         omega
        ·refine Br.yes ?_ ?_
         ·rw [neI, neI]
          cases q1 : poolOk s.cfg s.free s.host s.lane with
          | false => rfl
          | true =>
           by_cases q2 : (s.rings.length : Int) = s.cfg.queues
           ·rw [decide_eq_true q2, decide_eq_false (fun q3 => h8 ⟨q1, q2, q3⟩)]; rfl
           ·rw [decide_eq_false q2]; rfl
         refine Go0 ?_
         refine no ?_
         unfold QaH
         by_cases q1 : poolOk s.cfg s.free s.host s.lane = true
         ·rw [decide_eq_false (fun q2 => h8 ⟨q1, q2⟩)]
          simp only [Bool.false_and, Bool.and_false]
         ·rw [Qg q1]
          simp only [Bool.false_and, Bool.and_false]
       ·refine Br.yes ?_ ?_
        ·rw [neI]
         cases q1 : (QA s.glob s.pins s.rets) with
         | false => rfl
         | true => rw [decide_eq_false (fun q2 => h7 ⟨q1, q2⟩)]; rfl
        refine Go0 ?_
        refine no ?_
        unfold QaH
        by_cases q1 : (QA s.glob s.pins s.rets) = true
        ·rw [decide_eq_false (fun q2 => h7 ⟨q1, q2⟩ : ¬ ((s.pins.length : Int) = s.cfg.queues))]
         simp only [Bool.false_and, Bool.and_false]
        ·rw [Qg q1]
         simp only [Bool.false_and, Bool.and_false]
      ·refine Br.yes ?_ ?_
       ·rw [neI]
        cases q1 : (Qaj s.owner) with
        | false => rfl
        | true => rw [decide_eq_false (fun q2 => h6 ⟨q1, q2⟩)]; rfl
       refine Go0 ?_
       refine no ?_
       unfold QaH
       by_cases q1 : (Qaj s.owner) = true
       ·rw [decide_eq_false (fun q2 => h6 ⟨q1, q2⟩ : ¬ ((s.owner.length : Int) = s.cfg.shards))]
        simp only [Bool.false_and, Bool.and_false]
       ·rw [Qg q1]
        simp only [Bool.false_and, Bool.and_false]
     ·refine Br.yes ?_ ?_
      ·rw [neI]
       cases q1 : (QC s.live s.pend) with
       | false => rfl
       | true => rw [decide_eq_false (fun q2 => h5 ⟨q1, q2⟩)]; rfl
      refine Go0 ?_
      refine no ?_
      unfold QaH
      by_cases q1 : (QC s.live s.pend) = true
      ·rw [decide_eq_false (fun q2 => h5 ⟨q1, q2⟩ : ¬ ((s.live.length : Int) = s.cfg.zones))]
       simp only [Bool.false_and, Bool.and_false]
      ·rw [Qg q1]
       simp only [Bool.false_and, Bool.and_false]
    ·refine Br.yes (hb.trans (by rw [Qg h4]; rfl)) (Go0 ?_)
     refine no ?_
     unfold QaH
     rw [Qg h4]
     simp only [Bool.false_and, Bool.and_false]
   ·refine Br.yes ?_ ?_
    ·rw [neI]
     cases q1 : (Qu s.map) with
     | false => rfl
     | true => rw [decide_eq_false (fun q2 => h3 ⟨q1, q2⟩)]; rfl
    refine Go0 ?_
    refine no ?_
    unfold QaH
    by_cases q1 : (Qu s.map) = true
    ·rw [decide_eq_false (fun q2 => h3 ⟨q1, q2⟩ : ¬ ((s.map.length : Int) = s.cfg.shards))]
     simp only [Bool.false_and, Bool.and_false]
    ·rw [Qg q1]
     simp only [Bool.false_and, Bool.and_false]
  ·refine Br.yes ?_ ?_
   ·rw [neI, neI]
    by_cases q1 : (s.dev.zones.length : Int) = s.cfg.zones
    ·rw [decide_eq_true q1, decide_eq_false (fun q2 => h2 ⟨q1, q2⟩)]; rfl
    ·rw [decide_eq_false q1]; rfl
   refine Go0 ?_
   refine no ?_
   unfold QaH
   rw [decide_eq_false h2]
   simp only [Bool.false_and, Bool.and_false]
 ·refine Br.yes ?_ ?_
  ·rw [neI, neI]
   by_cases q1 : Qw s.cfg = 0
   ·rw [decide_eq_true q1, decide_eq_false (fun q2 => h1 ⟨q1, q2⟩)]; rfl
   ·rw [decide_eq_false q1]; rfl
  refine Go0 ?_
  refine no ?_
  unfold QaH
  by_cases q1 : Qw s.cfg = 0
  ·rw [decide_eq_false (fun q2 => h1 ⟨q1, q2⟩)]
   simp only [Bool.false_and, Bool.and_false]
  ·rw [decide_eq_false q1]
   simp only [Bool.false_and, Bool.and_false]
theorem QpW : HB 139 := hB Tryz.func139
end Go.Proofs
end

section
open Go Go.Am
namespace Go.Proofs
set_option maxRecDepth 20000
theorem QmH {l : List Req} (h : Qdx l l.length) : ∀ d i : Nat, i + d < l.length → (l.getD i default).serial ≤ (l.getD (i + d) default).serial
 | 0, i, _ => Int.le_refl _
 | d + 1, i, hi => by
  have ih := QmH h d i om
  have := (h (i + (d + 1)) hi).2 om
  rw [show i + (d + 1) - 1 = i + d by omega] at this
  omega
theorem QlA {l : List Req} (h : Qdx l l.length) {n : Int} : (∀ k, k < l.length → (l.getD k default).serial < n) ↔ (0 < l.length → (l.getD (l.length - 1) default).serial < n) := by
 constructor
 ·intro q h0; exact q _ om
 ·intro q k hk
  have := q om
  have h2 := QmH h (l.length - 1 - k) k om
  rw [show k + (l.length - 1 - k) = l.length - 1 by omega] at h2
  omega
theorem Qqv (s : St) (e : Evt) : PS 142 [.a e.cells, .c (.ip 48 (lget s.cells))] (.c (.bool (decide (s.serial ≤ e.serial)))) := by
 refine PSpec.rm ?_
 refine ov0 hΓ Tryz.func142 10 0 [.tmp 3] Tryz.ntmps142 Tryz.results142 ?_
 exact RM.i0
theorem Qry : HB 142 := hB Tryz.func142
def Qf5 (s : St) : Nat → C := fun _ => .ip 48 (lget s.cells)
theorem QqK (s0 : St) (l : List Evt) (hl : l.length ≤ 1000000) : PS 199 [.c (evC l), .c (.fn (.func 142) 1 (Qf5 s0))] (.c (.int .i64 (if l.any (fun (e : Evt) => decide (s0.serial ≤ e.serial)) = true then (l.findIdx (fun (e : Evt) => decide (s0.serial ≤ e.serial)) : Nat) else -1))) := by
 refine PSpec.rm ?_
 refine ov hΓ Tryz.func199 19 0 [.tmp 4] Tryz.ntmps199 Tryz.results199 ?_
 refine Go1 fun _h=>?_
 refine Lp.mkK hΓ (ι := Nat) [0, 1, 7] (fun i => [(8, .c (.int .i64 i))]) (fun _ => []) (fun i => i ≤ l.length ∧ ∀ j, j < i → (fun (e : Evt) => decide (s0.serial ≤ e.serial)) (l.getD j default) = false) (fun i => l.length - i) 0 ⟨Nat.zero_le _, fun j hj => absurd hj om⟩ ?_ ?_
 ·refine Mv.k1 ?_
  exact WC.fnI (fun j _ => rfl)
 ·rintro k ⟨hk, hs⟩
  refine Go0 ?_
  refine Br.of (fun h1=>Go0 ?_) (fun h1=>Go0 ?_)
  ·refine CallN.pureA Qry (Qqv s0 (l.getD k default) ) (Go0 ?_)
   cases hb : (fun (e : Evt) => decide (s0.serial ≤ e.serial)) (l.getD k default) with
   | true =>
    refine Br.yes hb (Go0 ?_)
    obtain ⟨q1, q2⟩ := Qdh (p := fun (e : Evt) => decide (s0.serial ≤ e.serial)) om hb hs
    rw [if_pos q1, q2]
    exact RM.i0
   | false =>
    refine Br.no hb (Go0 ?_)
    have w0 := Qa (↑k + 1) om om
    refine ⟨k + 1, ⟨om, QD hs hb⟩, om, ?_⟩
    refine Mv.k1 ?_
    exact WC.fnI (fun j _ => rfl)
  ·rw [if_neg (QcF (fun j hj => hs j om))]
   exact RM.i0
theorem QqH : HB 199 := hB Tryz.func199
theorem Qs3 (s0 : St) (l : List Evt) (hl : l.length ≤ 1000000) : PS 141 [.c (evC l), .c (.fn (.func 142) 1 (Qf5 s0))] (.c (.bool (l.any (fun (e : Evt) => decide (s0.serial ≤ e.serial))))) := by
 refine PSpec.rm ?_
 refine ov0 hΓ Tryz.func141 9 0 [.tmp 4] Tryz.ntmps141 Tryz.results141 ?_
 refine CallN.reads QqH (QqK s0 l hl) (BwA.cons (BwS.c (Bw.same rfl)) (BwA.cons (BwS.c (Bw.fn fun j _ => Bw.same (rfl))) BwA.nil)) rfl (Go0 ?_)
 refine RM.i1 ?_
 cases l.any (fun (e : Evt) => decide (s0.serial ≤ e.serial)) with
 | true => simp
 | false => rfl
theorem Qto : HB 141 := hB Tryz.func141
theorem queueB {r1 w1 : Bool} {d d' st q n : Int} : (bif (bif (bif !r1 then true else d != d') then true else !w1) then true else (bif st != 0 then decide (q ≥ n) else false)) = false ↔ r1 = true ∧ d = d' ∧ w1 = true ∧ (st = 0 ∨ q < n) := by
 cases r1 <;> cases w1 <;> by_cases h1 : d = d' <;> by_cases h2 : st = 0 <;> simp [h1, h2]
theorem queueOk_iff {s : St} {i : Nat} : QdQ s i = true ↔ (QX (s.rings.getD i default) = true ∧ (s.rings.getD i default).depth = s.cfg.depth ∧ Qas s.cfg (s.works.getD i default) = true ∧ ((s.works.getD i default).state = 0 ∨ (s.works.getD i default).req.serial < s.serial)) ∧
  ∀ k, k < (s.rings.getD i default).items.length → ((s.rings.getD i default).items.getD k default).serial < s.serial := by
 unfold QdQ
 simp only [Bool.and_eq_true, decide_eq_true_eq]
 exact ⟨fun ⟨a, b, c, d, e⟩ => ⟨⟨a, b, c, d⟩, e⟩, fun ⟨⟨a, b, c, d⟩, e⟩ => ⟨a, b, c, d, e⟩⟩
theorem lastB {n : Nat} {a b : Int} : (bif decide ((n : Int) > 0) then decide (a ≥ b) else false) = false ↔ (0 < n → a < b) := by
 by_cases h : 0 < n
 ·rw [decide_eq_true (show (n : Int) > 0 by omega)]
  simp [h]
 ·rw [decide_eq_false (show ¬ (n : Int) > 0 by omega)]
  simp [h]
theorem Qgk {s : St} (h : QaH s = true) : s.rings.length = s.works.length ∧ 0 ≤ s.serial ∧ s.serial ≤ 1099511627776 := by
 unfold QaH at h
 simp only [Bool.and_eq_true, decide_eq_true_eq] at h
 omega
set_option maxHeartbeats 4000000 in
theorem Qcl (s : St) (hs : s.small) (l : List Ent) (hall : Qu s.map = true → AllS s.map l) : PS 66 [.a s.cells] (.c (.bool (Qz s))) := by
 refine PSpec.rm ?_
 refine ov0 hΓ Tryz.func66 82 0 [.tmp 2] Tryz.ntmps66 Tryz.results66 ?_
 refine CallN.pureA QpW (QqJ s hs l hall ) (Go0 ?_)
 cases hp : QaH s with
 | false =>
  refine Br.yes rfl (Go0 ?_)
  rw [show Qz s = false by unfold Qz; rw [hp]; rfl]
  exact RM.i0
 | true =>
  refine Br.no rfl (Go1 fun _h=>?_)
  have hpl := Qgk hp
  refine Lp.mkK hΓ (ι := Nat) [1, 12, 13] (fun i => [(14, .c (.int .i64 i))]) (fun _ => [.vr s.cells]) (fun k => k ≤ s.rings.length ∧ ∀ i, i < k → QdQ s i = true) (fun i => s.rings.length - i) 0 ⟨Nat.zero_le _, fun j hj => absurd hj (Nat.not_lt_zero _)⟩ ?_ ?_
  ·exact Mv.k0
  ·rintro k ⟨hk, hk2⟩
   have hrl := hs.rings
   have hil := hs.items k
   refine Go0 ?_
   refine Br.of (fun h2=>Go0 ?_) (fun h2=>Go0 ?_)
   ·refine CallN.pureA QcQ (QcY (s.rings.getD k default) hil ) (Go0 ?_)
    refine CallG.auto QoJ (fun _ => Qoq s (s.works.getD k default) ) (Go0 ?_)
    have w0 := Qa (↑k + 1) om om
    have no : ¬ QdQ s k = true → Qz s = false := fun q => by
     unfold Qz
     rw [decide_eq_false (fun z => q (z k om))]
     simp only [Bool.false_and, Bool.and_false]
    by_cases e : QX (s.rings.getD k default) = true ∧ (s.rings.getD k default).depth = s.cfg.depth ∧ Qas s.cfg (s.works.getD k default) = true ∧ ((s.works.getD k default).state = 0 ∨ (s.works.getD k default).req.serial < s.serial)
    ·refine Br.no (queueB.2 e) (Go1 fun _h=>?_)
     refine Dr.mk hΓ hMix (by kernel_rfl) (Go0 ?_)
     have e0 : (k : Int).toNat = k := rfl
     have hw : IntKind.i64.wrap (↑(s.rings.getD k default).items.length - 1) = ↑(s.rings.getD k default).items.length - 1 := Qa _ om om
     refine Need.mk (fun h => by have h' := of_decide_eq_true h; rw [e0] at h' ⊢; rw [hw]; omega) ?_
     conv=>whnf
     refine Need.mk (fun h => by have h' := of_decide_eq_true h; rw [e0] at h' ⊢; rw [hw]; omega) (Go0 ?_)
     have hp2 : (IntKind.i64.wrap (↑(s.rings.getD k default).items.length - 1)).toNat = (s.rings.getD k default).items.length - 1 := by rw [hw]; omega
     have hro := (ringOk_iff.1 e.1).2
     rw [e0, hp2]
     by_cases e2 : 0 < (s.rings.getD k default).items.length → ((s.rings.getD k default).items.getD ((s.rings.getD k default).items.length - 1) default).serial < s.serial
     ·refine Br.no (lastB.2 e2) (Go0 ?_)
      refine ⟨k + 1, ⟨om, QD hk2 (queueOk_iff.2 ⟨e, (QlA hro).2 e2⟩)⟩, om, ?_⟩
      exact Mv.k0
     ·refine Br.yes ?_ ?_
      ·refine Decidable.byContradiction fun z => e2 (lastB.1 (Qg z))
      refine Go0 ?_
      rw [no (fun z => e2 ((QlA hro).1 (queueOk_iff.1 z).2))]
      exact RM.i0
    ·refine Br.yes ?_ ?_
     ·refine Decidable.byContradiction fun z => e (queueB.1 (Qg z))
     refine Go0 ?_
     rw [no (fun z => e (queueOk_iff.1 z).1)]
     exact RM.i0
   ·refine CallN.reads Qto (Qs3 s s.evs hs.evs) (BwA.cons (BwS.c (Bw.same rfl)) (BwA.cons (BwS.c (Bw.fn1 (g := lget [.ptr 0 0]) (g' := Qf5 s) (Bw.ptrL (cs := s.cells) rfl rfl rfl))) BwA.nil)) rfl (Go0 ?_)
    refine RM.immW rfl (WS.c (WC.bool ?_))
    unfold Qz
    rw [hp, decide_eq_true (fun i hi => hk2 i om), Bool.eq_iff_iff]
    simp only [Bool.true_and, Bool.not_eq_true', any_iff, decide_eq_true_eq, decide_eq_false_iff_not]
    exact ⟨fun q i hi => by have := q i hi; omega, fun q i hi => by have := q i hi; omega⟩
theorem Qck : HB 66 := hB Tryz.func66
theorem QiW (s : St) (hs : s.small) (l : List Ent) (hall : Qu s.map = true → AllS s.map l) : PS 30 [.a s.cells] (.c (.bool (Qz s))) := by
 refine PSpec.rm ?_
 refine ov0 hΓ Tryz.func30 6 0 [.tmp 2] Tryz.ntmps30 Tryz.results30 ?_
 refine CallN.pureA Qck (Qcl s hs l hall ) (Go0 ?_)
 exact RM.i0
theorem QiV : HB 30 := hB Tryz.func30
end Go.Proofs
end

section
open Go Go.Am
namespace Go.Am
theorem CallE.reads {P : Program} {f : FuncId} {args args' : List S} {r : S} {H : List O} {k : S → List O → Prop} (hb : HasBody P f) (hp : PSpec P f args' r) (ha : BwA H args args') (hr : r.flat = true) (hk : k r H) : CallE P f args H k :=
 ⟨r, H, hb, CSpec.reads hp ha hr ⟨rfl, rfl⟩, fun _ _ _ h => h, hk⟩
end Go.Am
namespace Go.Proofs
set_option maxRecDepth 20000
theorem BwL.own {H : List O} {s : St} {a b c e1 e2 e3 : Nat} {x1 x2 x3 : Bool} (ha : getL H a = some (.arr e1 2 s.rings.length (rngG s.rings))) (hb : getL H b = some (.arr e2 12 s.works.length (wrkG s.works))) (hc : getL H c = some (.arr e3 8 s.evs.length (evG s.evs))) :
  BwL H (s.cellsW (.sl a 2 s.rings.length s.rings.length x1) (.sl b 12 s.works.length s.works.length x2) (.sl c 8 s.evs.length s.evs.length x3)) s.cells := by
 have ra : Bw H (.sl a 2 s.rings.length s.rings.length x1) (rngC s.rings) := Bw.sl ha rfl (fun i _ j _ => Bw.same (QB _ _)) (fun e => by cases e)
 have rb : Bw H (.sl b 12 s.works.length s.works.length x2) (wrkC s.works) := Bw.sl hb rfl (fun i _ j _ => Bw.same (Qj _ _)) (fun e => by cases e)
 have rc : Bw H (.sl c 8 s.evs.length s.evs.length x3) (evC s.evs) := Bw.sl hc rfl (fun i _ j _ => Bw.same (QaP _ _)) (fun e => by cases e)
 unfold St.cells St.cellsW St.cellsX St.cellsZ
 repeat' (first | exact BwL.nil | refine BwL.cons ?_ ?_ | exact ra | exact rb | exact rc | exact Bw.same rfl)
theorem Qhu (s : St) (hs : s.small) (l : List Ent) (hall : Qu s.map = true → AllS s.map l) : CS 59 [.a s.cells] [] fun r H => r = .t [.inr (s.own 0 1 2), .inl (.bool (Qz s))] ∧ H = s.objs := by
 refine CSpec.rm ?_
 refine ov0 hΓ Tryz.func59 13 0 [.cell 2 138, .tmp 3] Tryz.ntmps59 Tryz.results59 ?_
 refine CallN.autoQ [] Qqp (Qrh s hs) (Go0 ?_)
 refine Dr.mvK [2, 4] [] [.vr s.cells, .vr (default : St).cells, .arr 98 2 s.rings.length (rngG s.rings), .arr 68 12 s.works.length (wrkG s.works), .arr 94 8 s.evs.length (evG s.evs), .vr (s.own 2 3 4)] (Mv.mkW ?_ ?_ leN) ?_ <;> (repeat' (first | exact WA.nil | refine WA.cons rfl ?_ ?_ | exact WB.nil | refine WB.cons ?_ ?_ | exact WT.nil | refine WT.cons ?_ ?_ | exact WH.nil | refine WH.cons ?_ ?_ | exact WR.nil | refine WR.cons rfl ?_ ?_ | refine WO.vr ?_ | exact WO.dead | exact WO.mpS | refine WO.mpA ?_ | exact WO.arrPA (fun i j => Qb _ _ _) | refine WO.arrA ?_ | exact WS.u | refine WS.c ?_ | refine WS.a ?_ | refine WS.t ?_ | exact WL.nil | refine WL.cons ?_ ?_ | exact WTL.nil | refine WTL.consC ?_ ?_ | refine WTL.consL ?_ ?_ | exact WC.nils | exact WC.nil rfl | exact WC.nilp | refine WC.fzA | exact WC.ptr rfl leN | exact WC.mpr rfl leN | refine WC.slA | refine WC.intA | refine WC.int ?_ | refine WC.boolA | refine WC.bool ?_ | refine WC.strA | refine WC.str ?_ | exact WC.imm rfl))
 ·exact fun i _ j _ => WC.reI (QB _ _)
 ·exact fun i _ j _ => WC.reI (Qj _ _)
 ·exact fun i _ j _ => WC.reI (QaP _ _)
 refine Dr.mkE hΓ hMix [66] [(0, 3)] (by kernel_rfl) (Go0 ?_)
 refine CallE.reads Qck (Qcl s hs l hall) (BwA.cons (BwS.a (BwL.own (a := 2) (b := 3) (c := 4) rfl rfl rfl)) BwA.nil) rfl (Go0 ?_)
 refine ⟨_, _, ?_, rfl, rfl⟩
 refine RM.renW [2, 3, 4] (by decide) ?_ ?_ <;> (repeat' (first | exact WA.nil | refine WA.cons rfl ?_ ?_ | exact WB.nil | refine WB.cons ?_ ?_ | exact WT.nil | refine WT.cons ?_ ?_ | exact WH.nil | refine WH.cons ?_ ?_ | exact WR.nil | refine WR.cons rfl ?_ ?_ | refine WO.vr ?_ | exact WO.dead | exact WO.mpS | refine WO.mpA ?_ | exact WO.arrPA (fun i j => Qb _ _ _) | refine WO.arrA ?_ | exact WS.u | refine WS.c ?_ | refine WS.a ?_ | refine WS.t ?_ | exact WL.nil | refine WL.cons ?_ ?_ | exact WTL.nil | refine WTL.consC ?_ ?_ | refine WTL.consL ?_ ?_ | exact WC.nils | exact WC.nil rfl | exact WC.nilp | refine WC.fzA | exact WC.ptr rfl leN | exact WC.mpr rfl leN | refine WC.slA | refine WC.intA | refine WC.int ?_ | refine WC.boolA | refine WC.bool ?_ | refine WC.strA | refine WC.str ?_ | exact WC.imm rfl))
 ·exact fun i _ j _ => WC.imm (QB _ _)
 ·exact fun i _ j _ => WC.imm (Qj _ _)
 ·exact fun i _ j _ => WC.imm (QaP _ _)
theorem QhG : HB 59 := hB Tryz.func59
theorem Qnw {l : List Evt} {x : Evt} {t : List C} {n i j : Nat} (hn : n = l.length) (hi : i < l.length + 1) (hj : j < 8) : appG (evG l) n (QaC 8 (.bool x.ret :: .int .i64 x.queue :: .int .i64 x.serial :: .int .i64 x.kind :: .int .i64 x.block :: .str x.data :: .int .i64 x.err :: .str x.rdata :: t)) i j = evG (l ++ [x]) i j :=
 Qb8 (f := Evt.cell) hn (fun j hj => by
  match j, hj with
  | 0, _ => rfl
  | 1, _ => rfl
  | 2, _ => rfl
  | 3, _ => rfl
  | 4, _ => rfl
  | 5, _ => rfl
  | 6, _ => rfl
  | 7, _ => rfl) hi hj
theorem Qd4 (s : St) (back : Bool) (q : Int) (r : Req) (err : Int) (d : ByteArray) (hs : s.evs.length ≤ 1000000) : CS 62 [.c (.ptr 0 0), .c (.bool back), .c (.int .i64 q), .a r.cells, .a [.int .i64 err, .str d]] (.vr (s.own 1 2 3) :: s.objs) fun x H => x = .t [] ∧ H = .vr ((s.addEv (QN back q r err d)).own 1 2 3) :: (s.addEv (QN back q r err d)).objs := by
 refine CSpec.rm ?_
 refine ov0 hΓ Tryz.func62 31 4 [] Tryz.ntmps62 Tryz.results62 ?_
 refine Dr.mkE hΓ hMix [] [(0, 16)] (by kernel_rfl) (Go0 ?_)
 refine ⟨_, _, ?_, rfl, rfl⟩
 have hl : (s.addEv (QN back q r err d)).evs.length = s.evs.length + 1 := by simp [St.addEv]
 unfold St.own St.objs
 rw [hl]
 refine RM.w3 ?_ ?_ ?_
 ·exact fun i _ j _ => WC.imm (QB _ _)
 ·exact fun i _ j _ => WC.imm (Qj _ _)
 ·exact fun i hi j hj => WC.eq (Qnw (x := QN back q r err d) rfl hi hj) (QaP _ _)
theorem Qee : HB 62 := hB Tryz.func62
end Go.Proofs
end
