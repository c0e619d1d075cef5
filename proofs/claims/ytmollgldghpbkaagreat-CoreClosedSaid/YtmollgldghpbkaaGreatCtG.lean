/- Contracts, lemmas; no condition. -/
import Derived.Test.YtmollgldghpbkaaGreatCtF
import Derived.Test.YtmollgldghpbkaaGreatModC
set_option linter.all false
section
open Go Go.Am
namespace Go.Proofs
set_option maxRecDepth 20000
def Qj3 (s : St) : List Int := if Qz s = true then Qcu s.evs else []
theorem QjG (s : St) (hs : s.small) (l : List Ent) (hall : Qu s.map = true → AllS s.map l) : PS 26 [.a s.cells] (.c (Qi (Qj3 s))) := by
 refine PSpec.rm ?_
 refine ov0 hΓ Tryz.func26 10 0 [.tmp 2] Tryz.ntmps26 Tryz.results26 ?_
 refine CallN.pureA Qck (Qcl s hs l hall ) (Go0 ?_)
 by_cases hv : Qz s = true
 ·refine Br.yes hv (Go0 ?_)
  refine CallN.pureA QhH (QhM s hs.evs ) (Go0 ?_)
  rw [show Qj3 s = Qcu s.evs from if_pos hv]
  exact RM.i0
 ·refine Br.no (Qg hv) (Go0 ?_)
  rw [show Qj3 s = [] from if_neg hv]
  exact RM.i0
theorem Qjc : HB 26 := hB Tryz.func26
theorem QcT {n : Int} {l : List Wrk} {k : Nat} : QbJ n l (k + 1) = if Qk (l.getD k default) = true ∧ ((l.take k).any Qk = false ∨ (l.getD k default).ent.version < QbJ n l k) then (l.getD k default).ent.version else QbJ n l k := rfl
theorem QaW {l : List Wrk} {k : Nat} (hk : k < l.length) : (l.take (k + 1)).any Qk = ((l.take k).any Qk || Qk (l.getD k default)) := by
 rw [QaJ l hk, List.any_append]
 simp
theorem QjI {n : Int} {l : List Wrk} : ∀ k, k ≤ l.length → (l.take k).any Qk = false → QbJ n l k = n
 | 0, _, _ => rfl
 | k + 1, hk, h => by
  rw [QaW om, Bool.or_eq_false_iff] at h
  rw [QcT, if_neg (by rw [h.2]; simp)]
  exact QjI k om h.1
def cutN (l : List Wrk) (n : Int) (k : Nat) : Int := if (l.take k).any Qk = true then QbJ n l k else 0
theorem Qux {l : List Wrk} {n : Int} {k : Nat} (hk : k < l.length) (h : Qk (l.getD k default) = true ∧ ((l.take k).any Qk = false ∨ (l.getD k default).ent.version < cutN l n k)) : cutN l n (k + 1) = (l.getD k default).ent.version := by
 unfold cutN
 rw [if_pos (by rw [QaW hk, h.1]; simp), QcT, if_pos]
 refine ⟨h.1, ?_⟩
 rcases h.2 with h2 | h2
 ·exact Or.inl h2
 ·by_cases c : (l.take k).any Qk = true
  ·unfold cutN at h2; rw [if_pos c] at h2; exact Or.inr h2
  ·exact Or.inl (Qg c)
theorem QsF {l : List Wrk} {n : Int} {k : Nat} (hk : k < l.length) (h : ¬ (Qk (l.getD k default) = true ∧ ((l.take k).any Qk = false ∨ (l.getD k default).ent.version < cutN l n k))) : cutN l n (k + 1) = cutN l n k ∧ (l.take (k + 1)).any Qk = (l.take k).any Qk := by
 by_cases c : (l.take k).any Qk = true
 ·have e : (l.take (k + 1)).any Qk = true := by rw [QaW hk, c]; rfl
  unfold cutN at h ⊢
  rw [if_pos c] at h
  rw [if_pos c, if_pos e, QcT, if_neg h]
  exact ⟨rfl, by rw [e, c]⟩
 ·have hu : Qk (l.getD k default) = false := Qg fun q => h ⟨q, Or.inl (Qg c)⟩
  have e : (l.take (k + 1)).any Qk = false := by rw [QaW hk, Qg c, hu]; rfl
  unfold cutN
  rw [if_neg c, if_neg (by rw [e]; simp)]
  exact ⟨rfl, by rw [e, Qg c]⟩
def cutW (s : St) : Int := QbJ s.next s.works s.works.length
set_option maxHeartbeats 4000000 in
theorem Qiq (s : St) (hs : s.works.length ≤ 1000000) : PS 78 [.a s.cells] (.c (.int .i64 (cutW s))) := by
 refine PSpec.rm ?_
 refine ov hΓ Tryz.func78 44 0 [.tmp 2] Tryz.ntmps78 Tryz.results78 ?_
 refine Go1 fun _h=>?_
 refine Lp.mkK hΓ (ι := Nat) [1, 2, 9, 10] (fun i => [(11, .c (.int .i64 i)), (3, .c (.int .i64 (cutN s.works s.next i))), (4, .c (.bool ((s.works.take i).any Qk)))]) (fun k => [.vr s.cells]) (fun k => k ≤ s.works.length) (fun i => s.works.length - i) 0 (Nat.zero_le _) ?_ ?_
 ·exact Mv.k0
 ·intro k hk
  refine Go0 ?_
  refine Br.of (fun h1=>Go0 ?_) (fun h1=>Go0 ?_)
  ·have w0 := Qa (↑k + 1) om om
   have e0 : ((k : Int)).toNat = k := rfl
   have hu : Qk (s.works.getD k default) = true ↔ (s.works.getD k default).state = 7 ∨ (s.works.getD k default).state = 8 := by unfold Qk; exact decide_eq_true_iff
   by_cases c : Qk (s.works.getD k default) = true ∧ ((s.works.take k).any Qk = false ∨ (s.works.getD k default).ent.version < cutN s.works s.next k)
   ·refine Br.yes ?_ ?_
    ·rw [hu] at c
     rcases c with ⟨c1 | c1, c2 | c2⟩ <;> simp [-List.getD_eq_getElem?_getD, c1, c2]
    refine Go0 ?_
    refine ⟨k + 1, om, om, ?_⟩
    refine Mv.k2 ?_ ?_
    ·exact (Qux om c).symm
    ·rw [QaW om, c.1, Bool.or_true]
   ·refine Br.no ?_ ?_
    ·refine Bool.eq_false_iff.2 fun e => c ?_
     rw [hu]
     simp [-List.getD_eq_getElem?_getD, -List.any_eq_false] at e
     exact e
    refine Go0 ?_
    refine ⟨k + 1, om, om, ?_⟩
    have hm := QsF (n := s.next) (k := k) om c
    refine Mv.k1 ?_
    ·exact hm.2.symm
  ·have : k = s.works.length := by omega
   subst this
   have e2 : s.works.take s.works.length = s.works := List.take_length
   rw [e2]
   by_cases c : s.works.any Qk = true
   ·refine Br.no (by rw [c]; rfl) (Go0 ?_)
    rw [show cutW s = cutN s.works s.next s.works.length by unfold cutN cutW; rw [e2, if_pos c]]
    exact RM.i0
   ·refine Br.yes (by rw [Qg c]; rfl) (Go0 ?_)
    rw [show cutW s = s.next from QjI _ (Nat.le_refl _) (by rw [e2]; exact Qg c)]
    exact RM.i0
theorem QiC : HB 78 := hB Tryz.func78
theorem Qlf (s : St) (hs : s.small) (l : List Ent) (hall : Qu s.map = true → AllS s.map l) : PS 32 [.a s.cells] (.c (.int .i64 (cutS s))) := by
 refine PSpec.rm ?_
 refine ov0 hΓ Tryz.func32 10 0 [.tmp 2] Tryz.ntmps32 Tryz.results32 ?_
 refine CallN.pureA Qck (Qcl s hs l hall ) (Go0 ?_)
 by_cases hv : Qz s = true
 ·refine Br.yes hv (Go0 ?_)
  refine CallN.pureA QiC (Qiq s hs.works ) (Go0 ?_)
  rw [show cutS s = cutW s from if_pos hv]
  exact RM.i0
 ·refine Br.no (Qg hv) (Go0 ?_)
  rw [show cutS s = 0 from if_neg hv]
  exact RM.i0
theorem Qk8 : HB 32 := hB Tryz.func32
theorem Qri (s : St) (hs : s.works.length ≤ 1000000) (e : Ent) : PS 81 [.a e.cells, .c (.ip 48 (lget s.cells))] (.c (.bool (QcA (cutW s) e))) := by
 refine PSpec.rm ?_
 refine ov0 hΓ Tryz.func81 14 0 [.tmp 3] Tryz.ntmps81 Tryz.results81 ?_
 refine Dr.mk hΓ hMix (by kernel_rfl) (Go0 ?_)
 refine CallP.autoG QiC (fun _ => Qiq s hs ) (Go0 ?_)
 refine RM.immW rfl (WS.c (WC.bool ?_))
 unfold QcA
 by_cases h : e.kind = 2 <;> simp [h]
theorem Qqw : HB 81 := hB Tryz.func81
theorem Qow (s0 : St) (h0 : s0.works.length ≤ 1000000) (l : List Ent) (hl : l.length ≤ 1000000) : PS 146 [.c (Qaw l), .c (.fn (.func 81) 1 (Qf5 s0))] (.c (.int .i64 (if l.any (QcA (cutW s0)) = true then (l.findIdx (QcA (cutW s0)) : Nat) else -1))) := by
 refine PSpec.rm ?_
 refine ov hΓ Tryz.func146 19 0 [.tmp 4] Tryz.ntmps146 Tryz.results146 ?_
 refine Go1 fun _h=>?_
 refine Lp.mkK hΓ (ι := Nat) [0, 1, 7] (fun i => [(8, .c (.int .i64 i))]) (fun _ => []) (fun i => i ≤ l.length ∧ ∀ j, j < i → (QcA (cutW s0)) (l.getD j default) = false) (fun i => l.length - i) 0 ⟨Nat.zero_le _, fun j hj => absurd hj om⟩ ?_ ?_
 ·refine Mv.k1 ?_
  exact WC.fnI (fun j _ => rfl)
 ·rintro k ⟨hk, hs⟩
  refine Go0 ?_
  refine Br.of (fun h1=>Go0 ?_) (fun h1=>Go0 ?_)
  ·refine CallN.pureA Qqw (Qri s0 h0 (l.getD k default) ) (Go0 ?_)
   rcases Bool.eq_false_or_eq_true ((QcA (cutW s0)) (l.getD k default)) with hb | hb
   ·refine Br.yes hb (Go0 ?_)
    obtain ⟨q1, q2⟩ := Qdh (p := QcA (cutW s0)) om hb hs
    rw [if_pos q1, q2]
    exact RM.i0
   ·refine Br.no hb (Go0 ?_)
    have w0 := Qa (↑k + 1) om om
    refine ⟨k + 1, ⟨om, QD hs hb⟩, om, ?_⟩
    refine Mv.k1 ?_
    exact WC.fnI (fun j _ => rfl)
  ·rw [if_neg (QcF (fun j hj => hs j om))]
   exact RM.i0
theorem Qof : HB 146 := hB Tryz.func146
theorem Qqt (s0 : St) (h0 : s0.works.length ≤ 1000000) (l : List Ent) (hl : l.length ≤ 1000000) : PS 79 [.c (Qaw l), .c (.fn (.func 81) 1 (Qf5 s0))] (.c (.bool (l.any (QcA (cutW s0))))) := by
 refine PSpec.rm ?_
 refine ov0 hΓ Tryz.func79 9 0 [.tmp 4] Tryz.ntmps79 Tryz.results79 ?_
 refine CallN.reads Qof (Qow s0 h0 l hl) (BwA.cons (BwS.c (Bw.same rfl)) (BwA.cons (BwS.c (Bw.fn fun j _ => Bw.same (rfl))) BwA.nil)) rfl (Go0 ?_)
 refine RM.i1 ?_
 cases l.any (QcA (cutW s0)) with
 | true => simp
 | false => rfl
theorem Qq7 : HB 79 := hB Tryz.func79
theorem AllS.anyD {m : List (List Ent)} {l : List Ent} (h : AllS m l) (p : Ent → Bool) : l.any p = m.any fun x => x.any p := by
 rw [Bool.eq_iff_iff, List.any_eq_true, List.any_eq_true]
 constructor
 ·rintro ⟨e, h1, h2⟩
  obtain ⟨i, hi, he⟩ := (h.mem e).1 h1
  rw [QaM _ _ hi] at he
  exact ⟨_, List.getElem_mem hi, List.any_eq_true.2 ⟨e, he, h2⟩⟩
 ·rintro ⟨x, h1, h2⟩
  obtain ⟨e, he, h3⟩ := List.any_eq_true.1 h2
  obtain ⟨i, hi, rfl⟩ := List.getElem_of_mem h1
  exact ⟨e, (h.mem e).2 ⟨i, hi, by rw [QaM _ _ hi]; exact he⟩, h3⟩
theorem Qgy {s : St} (h : Qz s = true) : Qu s.map = true := by
 unfold Qz at h
 rw [Bool.and_eq_true] at h
 have := h.1
 unfold QaH at this
 simp only [Bool.and_eq_true] at this
 exact this.2.2.2.1
theorem QfX (s : St) (hs : s.small) (l : List Ent) (hall : Qu s.map = true → AllS s.map l) : PS 33 [.a s.cells] (.c (.bool (Qj6 s))) := by
 refine PSpec.rm ?_
 refine ov0 hΓ Tryz.func33 15 0 [.tmp 2] Tryz.ntmps33 Tryz.results33 ?_
 refine CallN.pureA Qck (Qcl s hs l hall ) (Go0 ?_)
 refine CallG.auto Qne (fun hv => (hall (Qgy hv)).spec) (Go0 ?_)
 refine CallG.reads Qq7 (fun hv => Qqt s hs.works l (hall (Qgy hv)).len) (fun hv => BwA.cons (BwS.c (Bw.same rfl)) (BwA.cons (BwS.c (Bw.fn1 (g := lget [.ptr 1 0]) (g' := Qf5 s) (Bw.ptrL (cs := s.cells) rfl rfl rfl))) BwA.nil)) rfl (Go0 ?_)
 refine RM.immW rfl (WS.c (WC.bool ?_))
 unfold Qj6
 cases hv : Qz s with
 | false => rfl
 | true =>
  rw [show cutS s = cutW s from if_pos hv, ← (hall (Qgy hv)).anyD]
  rfl
theorem QfS : HB 33 := hB Tryz.func33
theorem Qfb {l : List Ret} {k : Nat} {z : Int} (hk : k < l.length) : QaX (l.take (k + 1)) z = (QaX (l.take k) z || decide ((l.getD k default).zone = z)) := by
 unfold QaX
 rw [QaJ l hk, List.any_append]
 simp
theorem Qt9 {l : List Ret} {k : Nat} {z : Int} (hk : k < l.length) (h : (l.getD k default).zone = z) : QaX l z = true := by
 unfold QaX
 rw [List.any_eq_true]
 refine ⟨l[k], List.getElem_mem hk, ?_⟩
 rw [QaM _ _ hk] at h
 exact decide_eq_true h
set_option maxHeartbeats 4000000 in
theorem Qt4 (s : St) (hs : s.small) (z : Int) : PS 190 [.a s.cells, .c (.int .i64 z)] (.c (.bool (canV s z))) := by
 refine PSpec.rm ?_
 have hr0 := hs.rets
 refine ov0 hΓ Tryz.func190 91 0 [.tmp 4] Tryz.ntmps190 Tryz.results190 ?_
 refine CallN.pureA QeM (Qe6 s.cfg z ) (Go0 ?_)
 have no : ¬ canV s z = true → canV s z = false := Qg
 by_cases h1 : QO s.cfg z = true ∧ (z < s.dev.zones.length ∧ z < s.live.length ∧ z < s.pend.length)
 ·have hz := Qbr h1.1
  refine Br.no (Bool.eq_false_iff.2 fun ebye => by simp [-List.getD_eq_getElem?_getD, -Int.default_eq_zero, h1.1] at ebye <;> grind) ?_; conv=>whnf
  have hr := confR_iff.1 hz.2.2
  have hz0 := hz.1
  have hz1 := h1.2.1
  have hz2 := h1.2.2.1
  have hz3 := h1.2.2.2
  refine Go0 ?_
  by_cases h2 : (s.dev.zones.getD z.toNat default).state = 4 ∧ s.pend.getD z.toNat default = 0 ∧ z ≠ s.host ∧ z ≠ s.lane
  ·refine Br.no (Bool.eq_false_iff.2 fun ebye => by simp [-List.getD_eq_getElem?_getD, -Int.default_eq_zero, h2] at ebye <;> grind) ?_; conv=>whnf
   refine Go1 fun _h=>?_
   refine Lp.mkK hΓ (ι := Nat) [1, 2, 69, 70] (fun i => [(71, .c (.int .i64 i))]) (fun _ => [.vr s.cells]) (fun k => k ≤ s.rets.length ∧ QaX (s.rets.take k) z = false) (fun i => s.rets.length - i) 0 ⟨Nat.zero_le _, rfl⟩ ?_ ?_
   ·exact Mv.k0
   ·rintro k ⟨hk, hk2⟩
    refine Go0 ?_
    refine Br.of (fun h3=>?_) (fun h3=>?_)<;>(try simp only [Int.toNat_natCast] at h3)<;>refine Go0 ?_
    ·have w0 := Qa (↑k + 1) om om
     refine Br.of (fun h4=>?_) (fun h4=>?_)<;>(try simp only [Int.toNat_natCast] at h4)<;>refine Go0 ?_
     ·rw [no (fun q => by rw [canV_iff] at q; rw [Qt9 om h4] at q; cases q.2.2.2.1)]
      exact RM.i0
     ·refine ⟨k + 1, ⟨om, by rw [Qfb om, hk2, decide_eq_false h4]; rfl⟩, om, ?_⟩
      exact Mv.k0
    ·refine Dr.mk hΓ hMix (by kernel_rfl) (Go0 ?_)
     have hk3 : QaX s.rets z = false := by
      have : k = s.rets.length := by omega
      rw [this, List.take_length] at hk2
      exact hk2
     have w1 : IntKind.i64.wrap (s.cfg.size - 1) = s.cfg.size - 1 := Qa _ om om
     refine RM.immW rfl (WS.c (WC.bool ?_))
     rw [w1, Bool.eq_iff_iff, canV_iff]
     simp [-List.getD_eq_getElem?_getD, -Int.default_eq_zero, h1, h2, hk3]
  ·refine Br.yes (Decidable.byContradiction fun ebye => h2 (by simp [-List.getD_eq_getElem?_getD, -Int.default_eq_zero] at ebye <;> grind)) ?_; conv=>whnf
   refine Go0 ?_
   rw [no (fun q => h2 (canV_iff.1 q).2.2.1)]
   exact RM.i0
 ·refine Br.yes (Decidable.byContradiction fun ebye => h1 (by simp [-List.getD_eq_getElem?_getD, -Int.default_eq_zero] at ebye <;> grind)) ?_; conv=>whnf
  refine Go0 ?_
  rw [no (fun q => h1 ⟨(canV_iff.1 q).1, (canV_iff.1 q).2.1⟩)]
  exact RM.i0
theorem QtK : HB 190 := hB Tryz.func190
theorem Qod (s : St) (hs : s.small) (z b : Int) (f : Bool) (hb : 0 ≤ b) (hb2 : f = true → b < s.live.length) : PS 189 [.c (.int .i64 z), .c (.ip 48 (lget s.cells)), .c (.ip 1 fun _ => .bool f), .c (.ip 1 fun _ => .int .i64 b)]
  (.c (.bool (canV s z && (!f || decide (s.live.getD z.toNat default < s.live.getD b.toNat default))))) := by
 refine PSpec.rm ?_
 refine ov0 hΓ Tryz.func189 28 0 [.tmp 5] Tryz.ntmps189 Tryz.results189 ?_
 refine Dr.mk hΓ hMix (by kernel_rfl) (Go0 ?_)
 refine CallP.auto QtK (Qt4 s hs z ) ?_
 conv=>whnf
 have hz : canV s z = true → 0 ≤ z ∧ z < s.live.length := fun h => ⟨(Qbr (canV_iff.1 h).1).1, (canV_iff.1 h).2.1.2.1⟩
 cases hcv : canV s z with
 | false =>
  refine Go0 ?_
  refine RM.immW rfl (WS.c (WC.bool rfl))
 | true =>
  have hz1 := hz hcv
  cases f with
  | false =>
   refine Go0 ?_
   refine RM.immW rfl (WS.c (WC.bool rfl))
  | true =>
   have hb3 := hb2 rfl
   refine Go0 ?_
   refine RM.immW rfl (WS.c (WC.bool rfl))
theorem Qos : HB 189 := hB Tryz.func189
theorem bel3 {n a b c oa ob oc : Nat} {ha : Nat.blt a n = true} {hb : Nat.blt b n = true} {hc : Nat.blt c n = true} : ∀ j, j < 3 → (lget [C.ptr a oa, C.ptr b ob, C.ptr c oc] j).bel n = true := fun j hj => by
 match j, hj with
 | 0, _ => exact ha
 | 1, _ => exact hb
 | 2, _ => exact hc
theorem choose_spec (s : St) (hs : s.small) : PS 132 [.a s.cells] (.t [.inl (.int .i64 (QQ s).1), .inl (.bool (QQ s).2)]) := by
 refine PSpec.rm ?_
 refine ov hΓ Tryz.func132 23 0 [.tmp 2, .tmp 3] Tryz.ntmps132 Tryz.results132 ?_
 have hz0 := hs.dev.z
 refine Go1 fun _h=>?_
 refine Lp.mkK hΓ (ι := Nat) [2, 3, 4, 5, 6, 12] (fun i => [(13, .c (.int .i64 i))]) (fun k => [.vr s.cells, .vr [.int .i64 (QT s k).1], .vr [.bool (QT s k).2]]) (fun k => k ≤ s.dev.zones.length) (fun i => s.dev.zones.length - i) 0 (Nat.zero_le _) ?_ ?_
 ·refine Mv.k1 ?_
  exact WC.fnP (bel3 (ha := rfl) (hb := rfl) (hc := rfl))
 ·intro k hk
  refine Go0 ?_
  refine Br.of (fun h1=>?_) (fun h1=>?_)<;>(try simp only [Int.toNat_natCast] at h1)<;>refine Go0 ?_
  ·have w0 := Qa (↑k + 1) om om
   refine CallN.reads Qos (Qod s hs k (QT s k).1 (QT s k).2 om (fun h => by have := (canV_iff.1 (Qhb h).2).2.1.2.1; omega)) (BwA.cons (BwS.c (Bw.same rfl)) (BwA.cons (BwS.c (Bw.ptrL (cs := s.cells) rfl rfl rfl)) (BwA.cons (BwS.c (Bw.ptr1 rfl rfl)) (BwA.cons (BwS.c (Bw.ptr1 rfl rfl)) BwA.nil)))) rfl (Go0 ?_)
   have hst : QT s (k + 1) = if canV s k = true ∧ ((QT s k).2 = false ∨ s.live.getD k default < s.live.getD (QT s k).1 default) then (k, true) else QT s k := rfl
   by_cases c : canV s k = true ∧ ((QT s k).2 = false ∨ s.live.getD k default < s.live.getD (QT s k).1 default)
   ·refine Br.yes (by rcases c with ⟨c1, c2 | c2⟩ <;> simp [-List.getD_eq_getElem?_getD, -Int.default_eq_zero, c1, c2]) ?_
    refine Go0 ?_
    refine ⟨k + 1, om, om, ?_⟩
    rw [hst, if_pos c]
    refine Mv.k1 ?_
    exact WC.fnP (bel3 (ha := rfl) (hb := rfl) (hc := rfl))
   ·refine Br.no (Bool.eq_false_iff.2 fun e => c (by simpa [-List.getD_eq_getElem?_getD, -Int.default_eq_zero] using e)) ?_
    refine Go0 ?_
    refine ⟨k + 1, om, om, ?_⟩
    rw [hst, if_neg c]
    refine Mv.k1 ?_
    exact WC.fnP (bel3 (ha := rfl) (hb := rfl) (hc := rfl))
  ·have : k = s.dev.zones.length := by omega
   subst this
   refine Dr.mk hΓ hMix (by kernel_rfl) (Go0 ?_)
   refine RM.immW rfl ?_
   exact wb0
theorem QoU : HB 132 := hB Tryz.func132
theorem Qt0 {l : List Int} (h : 1 ≤ l.length) : decide (QdF l (l.length - 1) > 0) = l.any fun x => decide (0 < x) := by
 rw [Bool.eq_iff_iff, decide_eq_true_eq, List.any_eq_true]
 rw [← Decidable.not_iff_not]
 rw [show ¬ QdF l (l.length - 1) > 0 ↔ QdF l (l.length - 1) ≤ 0 by omega, QgO]
 constructor
 ·rintro h1 ⟨x, hx, h2⟩
  obtain ⟨i, hi, rfl⟩ := List.getElem_of_mem hx
  have := h1 i om
  rw [QaM _ _ hi] at this
  have := of_decide_eq_true h2
  omega
 ·intro h1 i hi
  rw [QaM _ _ om]
  exact Int.not_lt.1 fun h2 => h1 ⟨_, List.getElem_mem om, decide_eq_true h2⟩
theorem Qix {s : St} (h : Qz s = true) : 1 ≤ s.pend.length := by
 unfold Qz at h
 rw [Bool.and_eq_true] at h
 have := h.1
 unfold QaH at this
 simp only [Bool.and_eq_true] at this
 have := this.2.2.2.2.2.2.1
 unfold QC at this
 simp only [Bool.and_eq_true, decide_eq_true_eq] at this
 omega
set_option maxHeartbeats 4000000 in
theorem Qsd (s : St) (hs : s.small) (l : List Ent) (hall : Qu s.map = true → AllS s.map l) : PS 51 [.a s.cells] (.c (.bool (Qj9 s))) := by
 refine PSpec.rm ?_
 refine ov0 hΓ Tryz.func51 48 0 [.tmp 2] Tryz.ntmps51 Tryz.results51 ?_
 refine CallN.pureA QiV (QiW s hs l hall ) (Go0 ?_)
 by_cases hv : Qz s = true
 ·refine Br.no (by rw [hv]; rfl) (Go0 ?_)
  refine CallN.pureA QoU (choose_spec s hs ) (Go0 ?_)
  refine CallG.auto QhL (fun _ => QhK s.pend (Qix hv) hs.pend ) (Go0 ?_)
  refine CallG.auto QfS (fun _ => QfX s hs l hall ) (Go0 ?_)
  refine RM.immW rfl (WS.c (WC.bool ?_))
  unfold Qj9
  rw [Qt0 (Qix hv), hv]
  cases (QQ s).2 <;> cases s.want <;> simp [-List.getD_eq_getElem?_getD]
  simp only [neI, Bool.or_assoc]
 ·refine Br.yes (by rw [Qg hv]; rfl) (Go0 ?_)
  rw [show Qj9 s = false by unfold Qj9; rw [Qg hv]; rfl]
  exact RM.i0
theorem Qsv : HB 51 := hB Tryz.func51
end Go.Proofs
end
