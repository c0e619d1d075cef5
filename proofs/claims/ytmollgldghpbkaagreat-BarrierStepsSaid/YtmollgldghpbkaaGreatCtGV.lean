/- Contracts, lemmas; no condition. -/
import Derived.Test.YtmollgldghpbkaaGreatCtFV
import Derived.Test.YtmollgldghpbkaaGreatModCV
set_option linter.all false
section
open Go Go.Am
namespace Go.Proofs
set_option maxRecDepth 20000
def Qj3 (s : St) : List Int := if Qz s = true then Qcu s.evs else []
theorem QjG (s : St) (hs : s.small) (l : List Ent) (hall : Qu s.map = true → AllS s.map l) : PS 26 [.a s.cells] (.c (Qi (Qj3 s))) := by
 refine PSpec.rm ?_
 refine ov0 hΓ Tryz.func26 10 0 [.tmp 2] Tryz.ntmps26 Tryz.results26 ?_
 refine CallN.pureA Qck (Qcl s hs l hall ) (Go0 ?_)
 by_cases hv : Qz s = true
 ·refine Br.yes hv (Go0 ?_)
  refine CallN.pureA QhH (QhM s hs.evs ) (Go0 ?_)
  rw [show Qj3 s = Qcu s.evs from if_pos hv]
  exact RM.i0
 ·refine Br.no (Qg hv) (Go0 ?_)
  rw [show Qj3 s = [] from if_neg hv]
  exact RM.i0
theorem Qjc : HB 26 := hB Tryz.func26
theorem QcT {n : Int} {l : List Wrk} {k : Nat} : QbJ n l (k + 1) = if Qk (l.getD k default) = true ∧ ((l.take k).any Qk = false ∨ (l.getD k default).ent.version < QbJ n l k) then (l.getD k default).ent.version else QbJ n l k := rfl
theorem QaW {l : List Wrk} {k : Nat} (hk : k < l.length) : (l.take (k + 1)).any Qk = ((l.take k).any Qk || Qk (l.getD k default)) := by
 rw [QaJ l hk, List.any_append]
 simp
theorem QjI {n : Int} {l : List Wrk} : ∀ k, k ≤ l.length → (l.take k).any Qk = false → QbJ n l k = n
 | 0, _, _ => rfl
 | k + 1, hk, h => by
  rw [QaW om, Bool.or_eq_false_iff] at h
  rw [QcT, if_neg (by rw [h.2]; simp)]
  exact QjI k om h.1
def cutN (l : List Wrk) (n : Int) (k : Nat) : Int := if (l.take k).any Qk = true then QbJ n l k else 0
def cutW (s : St) : Int := QbJ s.next s.works s.works.length
theorem Qfb {l : List Ret} {k : Nat} {z : Int} (hk : k < l.length) : QaX (l.take (k + 1)) z = (QaX (l.take k) z || decide ((l.getD k default).zone = z)) := by
 unfold QaX
 rw [QaJ l hk, List.any_append]
 simp
theorem Qt9 {l : List Ret} {k : Nat} {z : Int} (hk : k < l.length) (h : (l.getD k default).zone = z) : QaX l z = true := by
 unfold QaX
 rw [List.any_eq_true]
 refine ⟨l[k], List.getElem_mem hk, ?_⟩
 rw [QaM _ _ hk] at h
 exact decide_eq_true h
set_option maxHeartbeats 4000000 in
theorem Qt4 (s : St) (hs : s.small) (z : Int) : PS 190 [.a s.cells, .c (.int .i64 z)] (.c (.bool (canV s z))) := by
 refine PSpec.rm ?_
 have hr0 := hs.rets
 refine ov0 hΓ Tryz.func190 91 0 [.tmp 4] Tryz.ntmps190 Tryz.results190 ?_
 refine CallN.pureA QeM (Qe6 s.cfg z ) (Go0 ?_)
 have no : ¬ canV s z = true → canV s z = false := Qg
 by_cases h1 : QO s.cfg z = true ∧ (z < s.dev.zones.length ∧ z < s.live.length ∧ z < s.pend.length)
 ·have hz := Qbr h1.1
  refine Br.no (Bool.eq_false_iff.2 fun ebye => by simp [-List.getD_eq_getElem?_getD, -Int.default_eq_zero, h1.1] at ebye <;> grind) ?_; conv=>whnf
  have hr := confR_iff.1 hz.2.2
  have hz0 := hz.1
  have hz1 := h1.2.1
  have hz2 := h1.2.2.1
  have hz3 := h1.2.2.2
  refine Go0 ?_
  by_cases h2 : (s.dev.zones.getD z.toNat default).state = 4 ∧ s.pend.getD z.toNat default = 0 ∧ z ≠ s.host ∧ z ≠ s.lane
  ·refine Br.no (Bool.eq_false_iff.2 fun ebye => by simp [-List.getD_eq_getElem?_getD, -Int.default_eq_zero, h2] at ebye <;> grind) ?_; conv=>whnf
   refine Go1 fun _h=>?_
   refine Lp.mkK hΓ (ι := Nat) [1, 2, 69, 70] (fun i => [(71, .c (.int .i64 i))]) (fun _ => [.vr s.cells]) (fun k => k ≤ s.rets.length ∧ QaX (s.rets.take k) z = false) (fun i => s.rets.length - i) 0 ⟨Nat.zero_le _, rfl⟩ ?_ ?_
   ·exact Mv.k0
   ·rintro k ⟨hk, hk2⟩
    refine Go0 ?_
    refine Br.of (fun h3=>?_) (fun h3=>?_)<;>(try simp only [Int.toNat_natCast] at h3)<;>refine Go0 ?_
    ·have w0 := Qa (↑k + 1) om om
     refine Br.of (fun h4=>?_) (fun h4=>?_)<;>(try simp only [Int.toNat_natCast] at h4)<;>refine Go0 ?_
     ·rw [no (fun q => by rw [canV_iff] at q; rw [Qt9 om h4] at q; cases q.2.2.2.1)]
      exact RM.i0
     ·refine ⟨k + 1, ⟨om, by rw [Qfb om, hk2, decide_eq_false h4]; rfl⟩, om, ?_⟩
      exact Mv.k0
    ·refine Dr.mk hΓ hMix (by kernel_rfl) (Go0 ?_)
     have hk3 : QaX s.rets z = false := by
      have : k = s.rets.length := by omega
      rw [this, List.take_length] at hk2
      exact hk2
     have w1 : IntKind.i64.wrap (s.cfg.size - 1) = s.cfg.size - 1 := Qa _ om om
     refine RM.immW rfl (WS.c (WC.bool ?_))
     rw [w1, Bool.eq_iff_iff, canV_iff]
     simp [-List.getD_eq_getElem?_getD, -Int.default_eq_zero, h1, h2, hk3]
  ·refine Br.yes (Decidable.byContradiction fun ebye => h2 (by simp [-List.getD_eq_getElem?_getD, -Int.default_eq_zero] at ebye <;> grind)) ?_; conv=>whnf
   refine Go0 ?_
   rw [no (fun q => h2 (canV_iff.1 q).2.2.1)]
   exact RM.i0
 ·refine Br.yes (Decidable.byContradiction fun ebye => h1 (by simp [-List.getD_eq_getElem?_getD, -Int.default_eq_zero] at ebye <;> grind)) ?_; conv=>whnf
  refine Go0 ?_
  rw [no (fun q => h1 ⟨(canV_iff.1 q).1, (canV_iff.1 q).2.1⟩)]
  exact RM.i0
theorem QtK : HB 190 := hB Tryz.func190
theorem Qod (s : St) (hs : s.small) (z b : Int) (f : Bool) (hb : 0 ≤ b) (hb2 : f = true → b < s.live.length) : PS 189 [.c (.int .i64 z), .c (.ip 48 (lget s.cells)), .c (.ip 1 fun _ => .bool f), .c (.ip 1 fun _ => .int .i64 b)]
  (.c (.bool (canV s z && (!f || decide (s.live.getD z.toNat default < s.live.getD b.toNat default))))) := by
 refine PSpec.rm ?_
 refine ov0 hΓ Tryz.func189 28 0 [.tmp 5] Tryz.ntmps189 Tryz.results189 ?_
 refine Dr.mk hΓ hMix (by kernel_rfl) (Go0 ?_)
 refine CallP.auto QtK (Qt4 s hs z ) ?_
 conv=>whnf
 have hz : canV s z = true → 0 ≤ z ∧ z < s.live.length := fun h => ⟨(Qbr (canV_iff.1 h).1).1, (canV_iff.1 h).2.1.2.1⟩
 cases hcv : canV s z with
 | false =>
  refine Go0 ?_
  refine RM.immW rfl (WS.c (WC.bool rfl))
 | true =>
  have hz1 := hz hcv
  cases f with
  | false =>
   refine Go0 ?_
   refine RM.immW rfl (WS.c (WC.bool rfl))
  | true =>
   have hb3 := hb2 rfl
   refine Go0 ?_
   refine RM.immW rfl (WS.c (WC.bool rfl))
theorem Qos : HB 189 := hB Tryz.func189
theorem bel3 {n a b c oa ob oc : Nat} {ha : Nat.blt a n = true} {hb : Nat.blt b n = true} {hc : Nat.blt c n = true} : ∀ j, j < 3 → (lget [C.ptr a oa, C.ptr b ob, C.ptr c oc] j).bel n = true := fun j hj => by
 match j, hj with
 | 0, _ => exact ha
 | 1, _ => exact hb
 | 2, _ => exact hc
theorem choose_spec (s : St) (hs : s.small) : PS 132 [.a s.cells] (.t [.inl (.int .i64 (QQ s).1), .inl (.bool (QQ s).2)]) := by
 refine PSpec.rm ?_
 refine ov hΓ Tryz.func132 23 0 [.tmp 2, .tmp 3] Tryz.ntmps132 Tryz.results132 ?_
 have hz0 := hs.dev.z
 refine Go1 fun _h=>?_
 refine Lp.mkK hΓ (ι := Nat) [2, 3, 4, 5, 6, 12] (fun i => [(13, .c (.int .i64 i))]) (fun k => [.vr s.cells, .vr [.int .i64 (QT s k).1], .vr [.bool (QT s k).2]]) (fun k => k ≤ s.dev.zones.length) (fun i => s.dev.zones.length - i) 0 (Nat.zero_le _) ?_ ?_
 ·refine Mv.k1 ?_
  exact WC.fnP (bel3 (ha := rfl) (hb := rfl) (hc := rfl))
 ·intro k hk
  refine Go0 ?_
  refine Br.of (fun h1=>?_) (fun h1=>?_)<;>(try simp only [Int.toNat_natCast] at h1)<;>refine Go0 ?_
  ·have w0 := Qa (↑k + 1) om om
   refine CallN.reads Qos (Qod s hs k (QT s k).1 (QT s k).2 om (fun h => by have := (canV_iff.1 (Qhb h).2).2.1.2.1; omega)) (BwA.cons (BwS.c (Bw.same rfl)) (BwA.cons (BwS.c (Bw.ptrL (cs := s.cells) rfl rfl rfl)) (BwA.cons (BwS.c (Bw.ptr1 rfl rfl)) (BwA.cons (BwS.c (Bw.ptr1 rfl rfl)) BwA.nil)))) rfl (Go0 ?_)
   have hst : QT s (k + 1) = if canV s k = true ∧ ((QT s k).2 = false ∨ s.live.getD k default < s.live.getD (QT s k).1 default) then (k, true) else QT s k := rfl
   by_cases c : canV s k = true ∧ ((QT s k).2 = false ∨ s.live.getD k default < s.live.getD (QT s k).1 default)
   ·refine Br.yes (by rcases c with ⟨c1, c2 | c2⟩ <;> simp [-List.getD_eq_getElem?_getD, -Int.default_eq_zero, c1, c2]) ?_
    refine Go0 ?_
    refine ⟨k + 1, om, om, ?_⟩
    rw [hst, if_pos c]
    refine Mv.k1 ?_
    exact WC.fnP (bel3 (ha := rfl) (hb := rfl) (hc := rfl))
   ·refine Br.no (Bool.eq_false_iff.2 fun e => c (by simpa [-List.getD_eq_getElem?_getD, -Int.default_eq_zero] using e)) ?_
    refine Go0 ?_
    refine ⟨k + 1, om, om, ?_⟩
    rw [hst, if_neg c]
    refine Mv.k1 ?_
    exact WC.fnP (bel3 (ha := rfl) (hb := rfl) (hc := rfl))
  ·have : k = s.dev.zones.length := by omega
   subst this
   refine Dr.mk hΓ hMix (by kernel_rfl) (Go0 ?_)
   refine RM.immW rfl ?_
   exact wb0
end Go.Proofs
end
