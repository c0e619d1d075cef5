/- Contracts, lemmas; no condition. -/
import Derived.Test.YtkelkepdcfogaaaGreatP25D
import Derived.Sort.AssemblyPlain
set_option linter.all false
section
open Go Go.Am
namespace Go.Proofs
set_option maxRecDepth 20000
theorem QaQ (d : Array Fnd) (n i k : Nat) {u v : Int} (hd : d.size = n) (hl : n ≤ 1000000) (hi : i < n) (hk : k < n) (hu : u = i) (hv : v = k) : PS 47 [.c (.int .i64 u), .c (.int .i64 v), .c (.ip 1 fun _ => Qb5 d.toList)] (.c (.bool (Qb d[i]! d[k]!))) := by
 subst hu hv
 have := QsU d.toList i k (by simp; omega) (by simp; omega) (by simp; omega)
 rwa [getF, getF] at this
theorem QaO {H : List O} {n : Nat} {d : Array Fnd} {x : Bool} {u v : Int} (hd : d.size = n) (h0 : getL H 0 = some (arrO n d)) (h1 : getL H 1 = some (.vr [.sl 0 7 n n x])) : BwA H [.c (.int .i64 u), .c (.int .i64 v), .c (.ptr 1 0)] [.c (.int .i64 u), .c (.int .i64 v), .c (.ip 1 fun _ => Qb5 d.toList)] := by
 refine BwA.cons (BwS.c (Bw.same rfl)) (BwA.cons (BwS.c (Bw.same rfl)) (BwA.cons (BwS.c (Bw.ptr h1 fun j hj => ⟨.sl 0 7 n n x, ?_, ?_⟩)) BwA.nil))
 ·have : j = 0 := by omega
  subst this
  rfl
 ·unfold Qb5
  rw [Array.length_toList, hd]
  exact Bw.sl h0 rfl (fun i _ j _ => Bw.same (Qv _ _)) (fun e => by cases e)
theorem lsW {m : Nat} (h : 2 ≤ m := by exact Nat.le_of_ble_eq_true rfl) : WC idN m lsC lsC := ⟨rfl, rfl, fun j hj => ⟨rfl, rfl, by omega⟩⟩
theorem swW {m n : Nat} (h : 2 ≤ m := by exact Nat.le_of_ble_eq_true rfl) : WC idN m (swC n) (swC n) := ⟨rfl, rfl, fun j hj => by
 match j, hj with
 | 0, _ => exact ⟨rfl, rfl, rfl, rfl, by omega, fun e => e⟩
 | 1, _ => exact wkC.imm rfl⟩
def boxO (n : Nat) : O := .vr [lsC, swC n]
set_option maxHeartbeats 4000000 in
theorem Qop (n : Nat) (hl : n ≤ 1000000) (d : Array Fnd) (hd : d.size = n) (a b : Nat) (hab : a ≤ b) (hb : b ≤ n) : CS 131 [.a [lsC, swC n], .c (.int .i64 a), .c (.int .i64 b)] (sH n d) fun s H => s = .t [] ∧ H = sH n (Go.Sort.insertionSort Qb d a b) := by
 have wa := Qa ((a : Int) + 1) (by omega) (by omega)
 have hfin : Go.Sort.insertionSort Qb d a b = Go.Sort.insOuter Qb a b (a + 1) d := rfl
 generalize Go.Sort.insertionSort Qb d a b = R at *
 refine CSpec.rm ?_
 refine ov0 hΓ Tryz.func131 35 2 [] Tryz.ntmps131 Tryz.results131 ?_
 refine Lp.mkK hΓ (ι := Nat × Array Fnd) [1, 2, 3] (fun x => [(6, .c (.int .i64 x.1))]) (fun x => [arrO n x.2, .vr [.sl 0 7 n n false], boxO n]) (fun x => a + 1 ≤ x.1 ∧ (x.1 ≤ b ∨ x.1 = a + 1) ∧ x.2.size = n ∧ R = Go.Sort.insOuter Qb a b x.1 x.2) (fun x => b + 1 - x.1) (a + 1, d) ⟨Nat.le_refl _, Or.inr rfl, hd, hfin⟩ ?_ ?_
 ·refine Mv.k2 ?_ ?_
  ·exact lsW
  ·exact swW
 ·rintro ⟨i, e⟩ ⟨hi1, hi2, he, hR⟩
  have hi1 : a + 1 ≤ i := hi1
  have hi2 : i ≤ b ∨ i = a + 1 := hi2
  have he : e.size = n := he
  have hR : R = Go.Sort.insOuter Qb a b i e := hR
  refine Go0 ?_
  refine Br.of (fun h1=>Go0 ?_) (fun h1=>Go0 ?_)
  ·have w0 := Qa ((i : Int) + 1) (by omega) (by omega)
   have hib : i < b := by omega
   rw [Go.Sort.insOuter, if_pos hib] at hR
   refine Lp.mkK hΓ (ι := Nat × Array Fnd) [1, 2, 3, 6] (fun x => [(7, .c (.int .i64 x.1))]) (fun x => [arrO n x.2, .vr [.sl 0 7 n n false], boxO n]) (fun x => x.1 ≤ i ∧ a ≤ x.1 ∧ x.2.size = n ∧ R = Go.Sort.insOuter Qb a b (i + 1) (Go.Sort.insInner Qb a x.1 x.2)) (fun x => x.1) (i, e) ⟨Nat.le_refl _, by show a ≤ i; omega, he, hR⟩ ?_ ?_
   ·refine Mv.k2 ?_ ?_
    ·exact lsW
    ·exact swW
   ·rintro ⟨j, f⟩ ⟨hj1, hj2, hf, hRf⟩
    have hj1 : j ≤ i := hj1
    have hj2 : a ≤ j := hj2
    have hf : f.size = n := hf
    have hRf : R = Go.Sort.insOuter Qb a b (i + 1) (Go.Sort.insInner Qb a j f) := hRf
    refine Go0 ?_
    have w1 : a < j → IntKind.i64.wrap ((j : Int) - 1) = ((j - 1 : Nat) : Int) := fun h => by rw [Qa _ (by omega) (by omega)]; omega
    have hin : i < n := by omega
    refine CallG.reads Qaf (fun hg => QaQ f n j (j - 1) hf hl (by omega) (by omega) rfl (w1 (by have := of_decide_eq_true hg; show a < j; omega))) (fun hg => QaO hf rfl rfl) rfl (Go0 ?_)
    by_cases c : a < j ∧ Qb f[j]! f[j - 1]! = true
    ·have hst : Go.Sort.insInner Qb a j f = Go.Sort.insInner Qb a (j - 1) (Go.Sort.swp f j (j - 1)) := by
      obtain ⟨j', rfl⟩ : ∃ j', j = j' + 1 := ⟨j - 1, by omega⟩
      rw [Go.Sort.insInner]
      exact if_pos (by rw [decide_eq_true c.1]; exact c.2)
     rw [hst] at hRf
     refine Br.yes (by show (bif decide ((j : Int) > a) then _ else _) = _; rw [decide_eq_true (by omega)]; exact c.2) (Go0 ?_)
     refine Qbs rfl j (j - 1) f rfl (w1 c.1) hf (by omega) (by omega) rfl rfl (Go0 ?_)
     refine ⟨(j - 1, Go.Sort.swp f j (j - 1)), ⟨by show j - 1 ≤ i; omega, by show a ≤ j - 1; omega, by show (Go.Sort.swp f j (j - 1)).size = n; rw [Q8]; exact hf, hRf⟩, by show j - 1 < j; omega, ?_⟩
     rw [show IntKind.i64.wrap ((((j, f) : Nat × Array Fnd).1 : Int) - 1) = ((j - 1 : Nat) : Int) from w1 c.1]
     refine Mv.k2 ?_ ?_
     ·exact lsW
     ·exact swW
    ·have hst : Go.Sort.insInner Qb a j f = f := by
      cases j with
      | zero => rfl
      | succ j' =>
       rw [Go.Sort.insInner]
       refine if_neg fun q => c ?_
       rw [Bool.and_eq_true, decide_eq_true_eq] at q
       exact q
     rw [hst] at hRf
     refine Br.no (Bool.eq_false_iff.2 fun q => c ?_) ?_
     ·by_cases g : a < j
      ·refine ⟨g, ?_⟩
       have q : (bif decide ((j : Int) > a) then Qb f[j]! f[j - 1]! else false) = true := q
       rw [decide_eq_true (by omega)] at q
       exact q
      ·have q : (bif decide ((j : Int) > a) then Qb f[j]! f[j - 1]! else false) = true := q
       rw [decide_eq_false (by omega)] at q
       cases q
     ·refine Go0 ?_
      refine ⟨(i + 1, f), ⟨by show a + 1 ≤ i + 1; omega, by show i + 1 ≤ b ∨ _; omega, hf, hRf⟩, by show b + 1 - (i + 1) < b + 1 - i; omega, ?_⟩
      refine Mv.k2 ?_ ?_
      ·exact lsW
      ·exact swW
  ·have hib : ¬ i < b := by omega
   rw [Go.Sort.insOuter, if_neg hib] at hR
   rw [hR]
   refine ⟨_, _, ?_, rfl, rfl⟩
   exact RM.w0
theorem Qoh : HB 131 := hB Tryz.func131
set_option maxHeartbeats 4000000 in
theorem Qku (n : Nat) (hl : n ≤ 1000000) (d : Array Fnd) (hd : d.size = n) (lo hi first : Nat) (hlo : lo ≤ n) (hf : first + hi ≤ n) : CS 156 [.a [lsC, swC n], .c (.int .i64 lo), .c (.int .i64 hi), .c (.int .i64 first)] (sH n d) fun s H => s = .t [] ∧ H = sH n (Go.Sort.siftDown Qb hi first lo d) := by
 have hfin : Go.Sort.siftDown Qb hi first lo d = Go.Sort.siftDown Qb hi first lo d := rfl
 revert hfin
 generalize hR : Go.Sort.siftDown Qb hi first lo d = R
 intro _
 refine CSpec.rm ?_
 refine ov0 hΓ Tryz.func156 55 2 [] Tryz.ntmps156 Tryz.results156 ?_
 refine Lp.mkK hΓ (ι := Nat × Array Fnd) [1, 2, 3, 4] (fun x => [(8, .c (.int .i64 x.1))]) (fun x => [arrO n x.2, .vr [.sl 0 7 n n false], .vr [lsC, swC n]]) (fun x => x.1 ≤ n ∧ x.2.size = n ∧ Go.Sort.siftDown Qb hi first x.1 x.2 = R) (fun x => n + 1 - x.1) (lo, d) ⟨hlo, hd, hR⟩ ?_ ?_
 ·refine Mv.k2 ?_ ?_
  ·exact lsW
  ·exact swW
 ·rintro ⟨r, e⟩ ⟨hr, he, hRe⟩
  have hr : r ≤ n := hr
  have he : e.size = n := he
  have hRe : Go.Sort.siftDown Qb hi first r e = R := hRe
  have w1 : IntKind.i64.wrap (2 * (r : Int)) = 2 * (r : Int) := Qa _ (by omega) (by omega)
  have w2 : IntKind.i64.wrap (2 * (r : Int) + 1) = ((2 * r + 1 : Nat) : Int) := by rw [Qa _ (by omega) (by omega)]; omega
  refine Go0 ?_
  rw [show (((r, e) : Nat × Array Fnd).1 : Int) = (r : Int) from rfl, w1, w2]
  refine Go0 ?_
  by_cases c1 : 2 * r + 1 ≥ hi
  ·rw [Go.Sort.siftDown, dif_pos c1] at hRe
   refine Br.yes (decide_eq_true (by omega)) (Go0 ?_)
   subst hRe
   refine ⟨_, _, ?_, rfl, rfl⟩
   exact RM.w0
  ·rw [Go.Sort.siftDown, dif_neg c1] at hRe
   refine Br.no (decide_eq_false (by omega)) (Go0 ?_)
   have w3 : IntKind.i64.wrap (((2 * r + 1 : Nat) : Int) + 1) = ((2 * r + 2 : Nat) : Int) := by rw [Qa _ (by omega) (by omega)]; omega
   have w4 : IntKind.i64.wrap ((first : Int) + ((2 * r + 1 : Nat) : Int)) = ((first + (2 * r + 1) : Nat) : Int) := by rw [Qa _ (by omega) (by omega)]; omega
   have w5 : IntKind.i64.wrap (((first + (2 * r + 1) : Nat) : Int) + 1) = ((first + (2 * r + 1) + 1 : Nat) : Int) := by rw [Qa _ (by omega) (by omega)]; omega
   have w6 : IntKind.i64.wrap ((first : Int) + (r : Int)) = ((first + r : Nat) : Int) := by rw [Qa _ (by omega) (by omega)]; omega
   have w7 : IntKind.i64.wrap ((first : Int) + ((2 * r + 2 : Nat) : Int)) = ((first + (2 * r + 2) : Nat) : Int) := by rw [Qa _ (by omega) (by omega)]; omega
   refine CallG.reads Qaf (fun hg => QaQ e n (first + (2 * r + 1)) (first + (2 * r + 1) + 1) he hl (by omega) (by have := of_decide_eq_true hg; rw [w3] at this; omega) w4 (by rw [w4]; exact w5)) (fun hg => QaO he rfl rfl) rfl (Go0 ?_)
   by_cases c2 : 2 * r + 2 < hi ∧ Qb e[first + (2 * r + 1)]! e[first + (2 * r + 1) + 1]! = true
   ·rw [if_pos (by rw [Bool.and_eq_true, decide_eq_true_eq]; exact c2)] at hRe
    refine Br.yes (by rw [w3, decide_eq_true (by omega)]; exact c2.2) (Go0 ?_)
    rw [w3]
    refine Go0 ?_
    refine CallN.reads Qaf (QaQ e n (first + r) (first + (2 * r + 2)) he hl (by omega) (by omega) w6 w7) (QaO he rfl rfl) rfl (Go0 ?_)
    by_cases c3 : Qb e[first + r]! e[first + (2 * r + 2)]! = true
    ·rw [c3] at hRe
     refine Br.no (by rw [c3]; rfl) (Go0 ?_)
     refine Qbs rfl (first + r) (first + (2 * r + 2)) e w6 w7 he (by omega) (by omega) rfl rfl (Go0 ?_)
     refine ⟨((2 * r + 2), Go.Sort.swp e (first + r) (first + (2 * r + 2))), ⟨by show (2 * r + 2) ≤ n; omega, by show (Go.Sort.swp e _ _).size = n; rw [Q8]; exact he, by simpa [c2.1] using hRe⟩, by show n + 1 - (2 * r + 2) < n + 1 - r; omega, ?_⟩
     refine Mv.k2 ?_ ?_
     ·exact lsW
     ·exact swW
    ·have c3 : Qb e[first + r]! e[first + (2 * r + 2)]! = false := Bool.eq_false_iff.2 c3
     rw [c3] at hRe
     refine Br.yes (by rw [c3]; rfl) (Go0 ?_)
     have hRe : e = R := by simpa using hRe
     subst hRe
     refine ⟨_, _, ?_, rfl, rfl⟩
     exact RM.w0
   ·rw [if_neg (by rw [Bool.and_eq_true, decide_eq_true_eq]; exact c2)] at hRe
    refine Br.no (Bool.eq_false_iff.2 fun q => c2 ?_) ?_
    ·by_cases g : 2 * r + 2 < hi
     ·rw [w3, decide_eq_true (by omega)] at q
      exact ⟨g, q⟩
     ·rw [w3, decide_eq_false (by omega)] at q
      cases q
    ·refine Go0 ?_
     refine CallN.reads Qaf (QaQ e n (first + r) (first + (2 * r + 1)) he hl (by omega) (by omega) w6 w4) (QaO he rfl rfl) rfl (Go0 ?_)
     by_cases c3 : Qb e[first + r]! e[first + (2 * r + 1)]! = true
     ·rw [c3] at hRe
      refine Br.no (by rw [c3]; rfl) (Go0 ?_)
      refine Qbs rfl (first + r) (first + (2 * r + 1)) e w6 w4 he (by omega) (by omega) rfl rfl (Go0 ?_)
      refine ⟨((2 * r + 1), Go.Sort.swp e (first + r) (first + (2 * r + 1))), ⟨by show (2 * r + 1) ≤ n; omega, by show (Go.Sort.swp e _ _).size = n; rw [Q8]; exact he, by simpa using hRe⟩, by show n + 1 - (2 * r + 1) < n + 1 - r; omega, ?_⟩
      refine Mv.k2 ?_ ?_
      ·exact lsW
      ·exact swW
     ·have c3 : Qb e[first + r]! e[first + (2 * r + 1)]! = false := Bool.eq_false_iff.2 c3
      rw [c3] at hRe
      refine Br.yes (by rw [c3]; rfl) (Go0 ?_)
      have hRe : e = R := by simpa using hRe
      subst hRe
      refine ⟨_, _, ?_, rfl, rfl⟩
      exact RM.w0
theorem QkT : HB 156 := hB Tryz.func156
theorem QcO {σ : Nat → Nat} {l : List Fnd} : (fun i j => reC σ (fndG l i j)) = fndG l := by
 funext i j
 exact Qkz (Qc2 l i j)
theorem Qba {ρ : Nat → Nat} {m n : Nat} (h0 : ρ 0 = 0) (h1 : ρ 1 = 1) (h : 2 ≤ m) : WS ρ m (.a [lsC, swC n]) (.a [lsC, swC n]) :=
 WS.a (WL.cons ⟨rfl, rfl, fun j hj => ⟨h1.symm, rfl, by omega⟩⟩ (WL.cons ⟨rfl, rfl, fun j hj => by
  match j, hj with
  | 0, _ => exact ⟨h0.symm, rfl, rfl, rfl, by omega, fun e => e⟩
  | 1, _ => exact wkC.imm rfl⟩ WL.nil))
theorem QkW {lt : Fnd → Fnd → Bool} {n hi first : Nat} : ∀ {r : Nat} {e : Array Fnd}, e.size = n → (Go.Sort.siftDown lt hi first r e).size = n := by
 intro r
 induction hm : hi - r using Nat.strongRecOn generalizing r with
 | _ m ih =>
  intro e he
  rw [Go.Sort.siftDown]
  split
  ·exact he
  ·split
   ·split
    ·exact he
    ·split
     ·exact ih _ (by omega) rfl (by rw [Q8]; exact he)
     ·exact he
   ·split
    ·exact he
    ·exact ih _ (by omega) rfl (by rw [Q8]; exact he)
set_option maxHeartbeats 4000000 in
theorem Qr0 (n : Nat) (hl : n ≤ 1000000) (d : Array Fnd) (hd : d.size = n) (a b : Nat) (hab : a ≤ b) (hb : b ≤ n) : CS 132 [.a [lsC, swC n], .c (.int .i64 a), .c (.int .i64 b)] (sH n d) fun s H => s = .t [] ∧ H = sH n (Go.Sort.heapSort Qb d a b) := by
 have hR : Go.Sort.heapPop Qb a (b - a) (Go.Sort.heapBuild Qb (b - a) a ((b - a - 1) / 2 + 1) d) = Go.Sort.heapSort Qb d a b := rfl
 generalize Go.Sort.heapSort Qb d a b = R at *
 have w1 : IntKind.i64.wrap ((b : Int) - (a : Int)) = ((b - a : Nat) : Int) := by rw [Qa _ (by omega) (by omega)]; omega
 generalize hh : b - a = h at *
 have w2 : IntKind.i64.wrap ((h : Int) - 1) = (h : Int) - 1 := Qa _ (by omega) (by omega)
 have w3 : ((h : Int) - 1).tdiv 2 = (((h - 1) / 2 + 1 : Nat) : Int) - 1 := by
  by_cases q : h = 0
  ·subst q; rfl
  ·rw [Int.tdiv_eq_ediv_of_nonneg (by omega)]; omega
 have w4 : IntKind.i64.wrap ((((h - 1) / 2 + 1 : Nat) : Int) - 1) = (((h - 1) / 2 + 1 : Nat) : Int) - 1 := Qa _ (by omega) (by omega)
 refine CSpec.rm ?_
 refine ov0 hΓ Tryz.func132 45 2 [] Tryz.ntmps132 Tryz.results132 ?_
 rw [w1]
 refine Go0 ?_
 rw [w2, w3, w4]
 have hah : a + h ≤ n := by omega
 refine Lp.mkK hΓ (ι := Nat × Array Fnd) [3, 6, 7, 8] (fun x => [(9, .c (.int .i64 ((x.1 : Int) - 1)))]) (fun x => [arrO n x.2, .vr [.sl 0 7 n n false], .vr [lsC, swC n]]) (fun x => x.1 ≤ n + 1 ∧ x.2.size = n ∧ Go.Sort.heapPop Qb a h (Go.Sort.heapBuild Qb h a x.1 x.2) = R) (fun x => x.1) ((h - 1) / 2 + 1, d) ⟨by show (h - 1) / 2 + 1 ≤ n + 1; omega, hd, hR⟩ ?_ ?_
 ·refine Mv.k2 ?_ ?_
  ·exact lsW
  ·exact swW
 ·rintro ⟨k, e⟩ ⟨hk, he, hRe⟩
  have hk : k ≤ n + 1 := hk
  have he : e.size = n := he
  have hRe : Go.Sort.heapPop Qb a h (Go.Sort.heapBuild Qb h a k e) = R := hRe
  refine Go0 ?_
  rw [show (((k, e) : Nat × Array Fnd).1 : Int) = (k : Int) from rfl]
  cases k with
  | succ k =>
   refine Br.yes (decide_eq_true (by omega)) (Go0 ?_)
   have w5 : ((k + 1 : Nat) : Int) - 1 = (k : Int) := by omega
   have w6 : IntKind.i64.wrap ((k : Int) - 1) = (k : Int) - 1 := Qa _ (by omega) (by omega)
   rw [w5]
   refine CallN.autoQ [0, 1] QkT (Qku n hl e he k h a (by omega) hah) ?_ (ha := WB.cons (Qba rfl rfl leN) wb0)
   refine Go0 ?_
   rw [w6]
   refine ⟨(k, Go.Sort.siftDown Qb h a k e), ⟨by show k ≤ n + 1; omega, QkW he, hRe⟩, by show k < k + 1; omega, ?_⟩
   refine Mv.k3 ?_ ?_ ?_
   ·exact fun i _ j _ => WC.reI (Qv _ _)
   ·exact lsW
   ·exact swW
  | zero =>
   refine Br.no (decide_eq_false (by omega)) (Go0 ?_)
   rw [w2]
   have hRe : Go.Sort.heapPop Qb a h e = R := hRe
   refine Lp.mkK hΓ (ι := Nat × Array Fnd) [3, 6, 7, 8] (fun x => [(10, .c (.int .i64 ((x.1 : Int) - 1)))]) (fun x => [arrO n x.2, .vr [.sl 0 7 n n false], .vr [lsC, swC n]]) (fun x => x.1 ≤ h ∧ x.2.size = n ∧ Go.Sort.heapPop Qb a x.1 x.2 = R) (fun x => x.1) (h, e) ⟨Nat.le_refl _, he, hRe⟩ ?_ ?_
   ·refine Mv.k2 ?_ ?_
    ·exact lsW
    ·exact swW
   ·rintro ⟨k, f⟩ ⟨hk, hf, hRf⟩
    have hk : k ≤ h := hk
    have hf : f.size = n := hf
    have hRf : Go.Sort.heapPop Qb a k f = R := hRf
    refine Go0 ?_
    rw [show (((k, f) : Nat × Array Fnd).1 : Int) = (k : Int) from rfl]
    cases k with
    | succ k =>
     refine Br.yes (decide_eq_true (by omega)) (Go0 ?_)
     have w5 : ((k + 1 : Nat) : Int) - 1 = (k : Int) := by omega
     have w6 : IntKind.i64.wrap ((k : Int) - 1) = (k : Int) - 1 := Qa _ (by omega) (by omega)
     rw [w5]
     have w7 : IntKind.i64.wrap ((a : Int) + (k : Int)) = ((a + k : Nat) : Int) := by rw [Qa _ (by omega) (by omega)]; omega
     refine Qbs rfl a (a + k) f rfl w7 hf (by omega) (by omega) rfl rfl (Go0 ?_)
     refine CallN.autoQ [0, 1] QkT (Qku n hl (Go.Sort.swp f a (a + k)) (by rw [Q8]; exact hf) 0 k a (by omega) (by omega)) ?_ (ha := WB.cons (Qba rfl rfl leN) wb0)
     refine Go0 ?_
     rw [w6]
     refine ⟨(k, Go.Sort.siftDown Qb k a 0 (Go.Sort.swp f a (a + k))), ⟨by show k ≤ h; omega, QkW (by rw [Q8]; exact hf), hRf⟩, by show k < k + 1; omega, ?_⟩
     refine Mv.k3 ?_ ?_ ?_
     ·exact fun i _ j _ => WC.reI (Qv _ _)
     ·exact lsW
     ·exact swW
    | zero =>
     refine Br.no (decide_eq_false (by omega)) (Go0 ?_)
     have hRf : f = R := hRf
     subst hRf
     refine ⟨_, _, ?_, rfl, rfl⟩
     exact RM.w0
theorem QsQ : HB 132 := hB Tryz.func132
set_option maxHeartbeats 4000000 in
theorem Qm9 (n : Nat) (hl : n ≤ 1000000) (d : Array Fnd) (hd : d.size = n) (a b : Nat) (hab : a < b) (hb : b ≤ n) : CS 135 [.a [lsC, swC n], .c (.int .i64 a), .c (.int .i64 b)] (sH n d) fun s H => s = .t [] ∧ H = sH n (Go.Sort.reverseRange d a b) := by
 have hR : Go.Sort.reverseLoop a (b - 1) d = Go.Sort.reverseRange d a b := rfl
 generalize Go.Sort.reverseRange d a b = R at *
 have w1 : IntKind.i64.wrap ((b : Int) - 1) = ((b - 1 : Nat) : Int) := by rw [Qa _ (by omega) (by omega)]; omega
 refine CSpec.rm ?_
 refine ov0 hΓ Tryz.func135 23 2 [] Tryz.ntmps135 Tryz.results135 ?_
 rw [w1]
 refine Lp.mkK hΓ (ι := Nat × Nat × Array Fnd) [3] (fun x => [(6, .c (.int .i64 x.1)), (7, .c (.int .i64 x.2.1))]) (fun x => [arrO n x.2.2, .vr [.sl 0 7 n n false], .vr [lsC, swC n]]) (fun x => x.1 ≤ n ∧ x.2.1 < n ∧ x.2.2.size = n ∧ Go.Sort.reverseLoop x.1 x.2.1 x.2.2 = R) (fun x => x.2.1 + 1 - x.1) (a, b - 1, d) ⟨by show a ≤ n; omega, by show b - 1 < n; omega, hd, hR⟩ ?_ ?_
 ·refine Mv.k2 ?_ ?_
  ·exact lsW
  ·exact swW
 ·rintro ⟨i, j, e⟩ ⟨hi, hj, he, hRe⟩
  have hi : i ≤ n := hi
  have hj : j < n := hj
  have he : e.size = n := he
  have hRe : Go.Sort.reverseLoop i j e = R := hRe
  have w2 : IntKind.i64.wrap ((i : Int) + 1) = ((i + 1 : Nat) : Int) := by rw [Qa _ (by omega) (by omega)]; omega
  refine Go0 ?_
  rw [Go.Sort.reverseLoop] at hRe
  by_cases c : i < j
  ·rw [if_pos c] at hRe
   have w3 : IntKind.i64.wrap ((j : Int) - 1) = ((j - 1 : Nat) : Int) := by rw [Qa _ (by omega) (by omega)]; omega
   refine Br.yes (decide_eq_true (by show (i : Int) < j; omega)) (Go0 ?_)
   refine Qbs rfl i j e rfl rfl he (by omega) (by omega) rfl rfl (Go0 ?_)
   refine ⟨(i + 1, j - 1, Go.Sort.swp e i j), ⟨by show i + 1 ≤ n; omega, by show j - 1 < n; omega, by show (Go.Sort.swp e i j).size = n; rw [Q8]; exact he, hRe⟩, by show j - 1 + 1 - (i + 1) < j + 1 - i; omega, ?_⟩
   rw [show IntKind.i64.wrap ((((i, j, e) : Nat × Nat × Array Fnd).1 : Int) + 1) = ((i + 1 : Nat) : Int) from w2, show IntKind.i64.wrap ((((i, j, e) : Nat × Nat × Array Fnd).2.1 : Int) - 1) = ((j - 1 : Nat) : Int) from w3]
   refine Mv.k2 ?_ ?_
   ·exact lsW
   ·exact swW
  ·rw [if_neg c] at hRe
   refine Br.no (decide_eq_false (by show ¬ (i : Int) < j; omega)) (Go0 ?_)
   subst hRe
   refine ⟨_, _, ?_, rfl, rfl⟩
   exact RM.w0
theorem Qmn : HB 135 := hB Tryz.func135
theorem QoV {lt : Fnd → Fnd → Bool} {a i j I J : Nat} {d : Array Fnd} (hI : Go.Sort.scanUp (fun x => !lt d[a]! x) d j i = I) (hJ : Go.Sort.scanDown (fun x => lt d[a]! x) d I j = J) :
  Go.Sort.partEqLoop lt a i j d = if I > J then (I, d) else if (J - 1) + 1 - (I + 1) < j + 1 - i then Go.Sort.partEqLoop lt a (I + 1) (J - 1) (Go.Sort.swp d I J) else (I, d) := by
 subst hI hJ
 rw [Go.Sort.partEqLoop]
 rfl
theorem Qrm {p : Fnd → Bool} {d : Array Fnd} {i j : Nat} (h1 : i ≤ j) (h2 : p d[i]! = true) : Go.Sort.scanUp p d j i = Go.Sort.scanUp p d j (i + 1) := by
 rw [Go.Sort.scanUp, if_pos (by rw [decide_eq_true h1, h2]; rfl)]
theorem Ql2 {p : Fnd → Bool} {d : Array Fnd} {i j : Nat} (h : ¬ (i ≤ j ∧ p d[i]! = true)) : Go.Sort.scanUp p d j i = i := by
 rw [Go.Sort.scanUp, if_neg fun q => h (by rw [Bool.and_eq_true, decide_eq_true_eq] at q; exact q)]
theorem QjU {p : Fnd → Bool} {d : Array Fnd} {i j : Nat} (h0 : 1 ≤ j) (h1 : i ≤ j) (h2 : p d[j]! = true) : Go.Sort.scanDown p d i j = Go.Sort.scanDown p d i (j - 1) := by
 obtain ⟨j, rfl⟩ : ∃ k, j = k + 1 := ⟨j - 1, by omega⟩
 rw [Go.Sort.scanDown, if_pos (by rw [decide_eq_true h1, h2]; rfl)]
 rfl
theorem Qin {p : Fnd → Bool} {d : Array Fnd} {i j : Nat} (h0 : 1 ≤ i) (h : ¬ (i ≤ j ∧ p d[j]! = true)) : Go.Sort.scanDown p d i j = j := by
 cases j with
 | zero => rfl
 | succ j => rw [Go.Sort.scanDown, if_neg fun q => h (by rw [Bool.and_eq_true, decide_eq_true_eq] at q; exact q)]
theorem Qa2 {b c : Bool} {p : Prop} [Decidable p] (h : b = decide p) : (bif b then c else false) = true ↔ p ∧ c = true := by
 subst h
 by_cases q : p <;> simp [q]
set_option maxHeartbeats 8000000 in
theorem QoN (n : Nat) (hl : n ≤ 1000000) (d : Array Fnd) (hd : d.size = n) (a b p : Nat) (hap : a ≤ p) (hpb : p < b) (hb : b ≤ n) : CS 137 [.a [lsC, swC n], .c (.int .i64 a), .c (.int .i64 b), .c (.int .i64 p)] (sH n d) fun s H => s = .c (.int .i64 (Go.Sort.partitionEqual Qb d a b p).1) ∧ H = sH n (Go.Sort.partitionEqual Qb d a b p).2 := by
 have hR : Go.Sort.partEqLoop Qb a (a + 1) (b - 1) (Go.Sort.swp d a p) = Go.Sort.partitionEqual Qb d a b p := rfl
 generalize Go.Sort.partitionEqual Qb d a b p = R at *
 have w1 : IntKind.i64.wrap ((b : Int) - 1) = ((b - 1 : Nat) : Int) := by rw [Qa _ (by omega) (by omega)]; omega
 have w2 : IntKind.i64.wrap ((a : Int) + 1) = ((a + 1 : Nat) : Int) := by rw [Qa _ (by omega) (by omega)]; omega
 refine CSpec.rm ?_
 refine ov0 hΓ Tryz.func137 58 2 [.tmp 8] Tryz.ntmps137 Tryz.results137 ?_
 refine Qbs rfl a p d rfl rfl hd (by omega) (by omega) rfl rfl (Go0 ?_)
 rw [w1, w2]
 refine Lp.mkK hΓ (ι := Nat × Nat × Array Fnd) [1, 4] (fun x => [(9, .c (.int .i64 x.1)), (10, .c (.int .i64 x.2.1))]) (fun x => [arrO n x.2.2, .vr [.sl 0 7 n n false], .vr [lsC, swC n]]) (fun x => a + 1 ≤ x.1 ∧ x.1 ≤ n ∧ x.2.1 < n ∧ x.2.2.size = n ∧ Go.Sort.partEqLoop Qb a x.1 x.2.1 x.2.2 = R) (fun x => x.2.1 + 1 - x.1) (a + 1, b - 1, Go.Sort.swp d a p) ⟨Nat.le_refl _, by show a + 1 ≤ n; omega, by show b - 1 < n; omega, by show (Go.Sort.swp d a p).size = n; rw [Q8]; exact hd, hR⟩ ?_ ?_
 ·refine Mv.k2 ?_ ?_
  ·exact lsW
  ·exact swW
 ·rintro ⟨i, j, e⟩ ⟨hi0, hi, hj, he, hRe⟩
  have hi0 : a + 1 ≤ i := hi0
  have hi : i ≤ n := hi
  have hj : j < n := hj
  have he : e.size = n := he
  have hRe : Go.Sort.partEqLoop Qb a i j e = R := hRe
  generalize hI : Go.Sort.scanUp (fun x => !Qb e[a]! x) e j i = I
  refine Lp.mkK hΓ (ι := Nat) [1, 4, 10] (fun x => [(9, .c (.int .i64 x))]) (fun x => [arrO n e, .vr [.sl 0 7 n n false], .vr [lsC, swC n]]) (fun x => i ≤ x ∧ x ≤ n ∧ Go.Sort.scanUp (fun x => !Qb e[a]! x) e j x = I) (fun x => n + 1 - x) i ⟨Nat.le_refl _, hi, hI⟩ ?_ ?_
  ·refine Mv.k2 ?_ ?_
   ·exact lsW
   ·exact swW
  ·rintro u ⟨hu0, hu, hIu⟩
   have w3 : IntKind.i64.wrap ((u : Int) + 1) = ((u + 1 : Nat) : Int) := by rw [Qa _ (by omega) (by omega)]; omega
   refine Go0 ?_
   refine CallG.reads Qaf (fun hg => QaQ e n a u he hl (by omega) (by have : (u : Int) ≤ j := of_decide_eq_true hg; omega) rfl rfl) (fun hg => QaO he rfl rfl) rfl (Go0 ?_)
   by_cases c1 : u ≤ j ∧ (!Qb e[a]! e[u]!) = true
   ·rw [Qrm c1.1 c1.2] at hIu
    refine Br.yes ((Qa2 (p := u ≤ j) (by rw [decide_eq_decide]; show (u : Int) ≤ j ↔ _; omega)).2 c1) (Go0 ?_)
    refine ⟨u + 1, ⟨by omega, by omega, hIu⟩, by omega, ?_⟩
    refine Mv.k2 ?_ ?_
    ·exact lsW
    ·exact swW
   ·rw [Ql2 c1] at hIu
    refine Br.no (Bool.eq_false_iff.2 fun q => c1 ((Qa2 (p := u ≤ j) (by rw [decide_eq_decide]; show (u : Int) ≤ j ↔ _; omega)).1 q)) (Go0 ?_)
    subst hIu
    generalize hJ : Go.Sort.scanDown (fun x => Qb e[a]! x) e u j = J
    have hst := QoV hI hJ
    rw [hst] at hRe
    refine Lp.mkK hΓ (ι := Nat) [1, 4, 9] (fun x => [(10, .c (.int .i64 x))]) (fun x => [arrO n e, .vr [.sl 0 7 n n false], .vr [lsC, swC n]]) (fun x => x ≤ j ∧ Go.Sort.scanDown (fun x => Qb e[a]! x) e u x = J) (fun x => x) j ⟨Nat.le_refl _, hJ⟩ ?_ ?_
    ·refine Mv.k2 ?_ ?_
     ·exact lsW
     ·exact swW
    ·rintro v ⟨hv, hJv⟩
     refine Go0 ?_
     refine CallG.reads Qaf (fun hg => QaQ e n a v he hl (by omega) (by omega) rfl rfl) (fun hg => QaO he rfl rfl) rfl (Go0 ?_)
     by_cases c2 : u ≤ v ∧ Qb e[a]! e[v]! = true
     ·have w4 : IntKind.i64.wrap ((v : Int) - 1) = ((v - 1 : Nat) : Int) := by rw [Qa _ (by omega) (by omega)]; omega
      rw [QjU (by omega) c2.1 c2.2] at hJv
      refine Br.yes ((Qa2 (p := u ≤ v) (by rw [decide_eq_decide]; show (u : Int) ≤ v ↔ _; omega)).2 c2) (Go0 ?_)
      refine ⟨v - 1, ⟨by omega, hJv⟩, by omega, ?_⟩
      refine Mv.k2 ?_ ?_
      ·exact lsW
      ·exact swW
     ·rw [Qin (by omega) c2] at hJv
      subst hJv
      refine Br.no (Bool.eq_false_iff.2 fun q => c2 ((Qa2 (p := u ≤ v) (by rw [decide_eq_decide]; show (u : Int) ≤ v ↔ _; omega)).1 q)) (Go0 ?_)
      by_cases c3 : u > v
      ·rw [if_pos c3] at hRe
       refine Br.yes (decide_eq_true (by show (u : Int) > v; omega)) (Go0 ?_)
       rw [← hRe]
       refine ⟨_, _, ?_, rfl, rfl⟩
       exact RM.w0
      ·rw [if_neg c3, if_pos (by omega)] at hRe
       have w4 : IntKind.i64.wrap ((v : Int) - 1) = ((v - 1 : Nat) : Int) := by rw [Qa _ (by omega) (by omega)]; omega
       refine Br.no (decide_eq_false (by show ¬ (u : Int) > v; omega)) (Go0 ?_)
       refine Qbs rfl u v e rfl rfl he (by omega) (by omega) rfl rfl (Go0 ?_)
       refine ⟨(u + 1, v - 1, Go.Sort.swp e u v), ⟨by show a + 1 ≤ u + 1; omega, by show u + 1 ≤ n; omega, by show v - 1 < n; omega, by show (Go.Sort.swp e u v).size = n; rw [Q8]; exact he, hRe⟩, by show v - 1 + 1 - (u + 1) < j + 1 - i; omega, ?_⟩
       rw [w3, w4]
       refine Mv.k2 ?_ ?_
       ·exact lsW
       ·exact swW
theorem QoD : HB 137 := hB Tryz.func137
theorem QsY {lt : Fnd → Fnd → Bool} {a i j I J : Nat} {d : Array Fnd} (hI : Go.Sort.scanUp (fun x => lt x d[a]!) d j i = I) (hJ : Go.Sort.scanDown (fun x => !lt x d[a]!) d I j = J) :
  Go.Sort.partLoop lt a i j d = if I > J then (J, d) else if (J - 1) + 1 - (I + 1) < j + 1 - i then Go.Sort.partLoop lt a (I + 1) (J - 1) (Go.Sort.swp d I J) else (J, d) := by
 subst hI hJ
 rw [Go.Sort.partLoop]
 rfl
theorem QqZ {lt : Fnd → Fnd → Bool} {a b p I J : Nat} {d e : Array Fnd} (he : Go.Sort.swp d a p = e) (hI : Go.Sort.scanUp (fun x => lt x e[a]!) e (b - 1) (a + 1) = I) (hJ : Go.Sort.scanDown (fun x => !lt x e[a]!) e I (b - 1) = J) :
  Go.Sort.partition lt d a b p = if I > J then (J, true, Go.Sort.swp e J a) else ((Go.Sort.partLoop lt a (I + 1) (J - 1) (Go.Sort.swp e I J)).1, false, Go.Sort.swp (Go.Sort.partLoop lt a (I + 1) (J - 1) (Go.Sort.swp e I J)).2 (Go.Sort.partLoop lt a (I + 1) (J - 1) (Go.Sort.swp e I J)).1 a) := by
 subst he hI hJ
 rfl
set_option maxHeartbeats 8000000 in
theorem Qsv (n : Nat) (hl : n ≤ 1000000) (d : Array Fnd) (hd : d.size = n) (a b p : Nat) (hap : a ≤ p) (hpb : p < b) (hb : b ≤ n) : CS 138 [.a [lsC, swC n], .c (.int .i64 a), .c (.int .i64 b), .c (.int .i64 p)] (sH n d) fun s H => s = .t [.inl (.int .i64 (Go.Sort.partition Qb d a b p).1), .inl (.bool (Go.Sort.partition Qb d a b p).2.1)] ∧ H = sH n (Go.Sort.partition Qb d a b p).2.2 := by
 generalize hR : Go.Sort.partition Qb d a b p = R
 have w1 : IntKind.i64.wrap ((b : Int) - 1) = ((b - 1 : Nat) : Int) := by rw [Qa _ (by omega) (by omega)]; omega
 have w2 : IntKind.i64.wrap ((a : Int) + 1) = ((a + 1 : Nat) : Int) := by rw [Qa _ (by omega) (by omega)]; omega
 refine CSpec.rm ?_
 refine ov0 hΓ Tryz.func138 107 2 [.tmp 8, .tmp 9] Tryz.ntmps138 Tryz.results138 ?_
 refine Qbs rfl a p d rfl rfl hd (by omega) (by omega) rfl rfl (Go0 ?_)
 rw [w1, w2]
 have he : (Go.Sort.swp d a p).size = n := by rw [Q8]; exact hd
 generalize hS : Go.Sort.swp d a p = e at *
 obtain ⟨i, hia⟩ : ∃ i, i = a + 1 := ⟨_, rfl⟩
 obtain ⟨j, hjb⟩ : ∃ j, j = b - 1 := ⟨_, rfl⟩
 rw [← hia, ← hjb]
 have hi0 : a + 1 ≤ i := by omega
 have hi : i ≤ n := by omega
 have hj : j < n := by omega
 generalize hI : Go.Sort.scanUp (fun x => Qb x e[a]!) e j i = I
 refine Lp.mkK hΓ (ι := Nat) [1, 4, 11] (fun x => [(10, .c (.int .i64 x))]) (fun x => [arrO n e, .vr [.sl 0 7 n n false], .vr [lsC, swC n]]) (fun x => i ≤ x ∧ x ≤ n ∧ Go.Sort.scanUp (fun x => Qb x e[a]!) e j x = I) (fun x => n + 1 - x) i ⟨Nat.le_refl _, hi, hI⟩ ?_ ?_
 ·refine Mv.k2 ?_ ?_
  ·exact lsW
  ·exact swW
 ·rintro u ⟨hu0, hu, hIu⟩
  have w3 : IntKind.i64.wrap ((u : Int) + 1) = ((u + 1 : Nat) : Int) := by rw [Qa _ (by omega) (by omega)]; omega
  refine Go0 ?_
  refine CallG.reads Qaf (fun hg => QaQ e n u a he hl (by have : (u : Int) ≤ j := of_decide_eq_true hg; omega) (by omega) rfl rfl) (fun hg => QaO he rfl rfl) rfl (Go0 ?_)
  by_cases c1 : u ≤ j ∧ Qb e[u]! e[a]! = true
  ·rw [Qrm c1.1 c1.2] at hIu
   refine Br.yes ((Qa2 (p := u ≤ j) (by rw [decide_eq_decide]; show (u : Int) ≤ j ↔ _; omega)).2 c1) (Go0 ?_)
   refine ⟨u + 1, ⟨by omega, by omega, hIu⟩, by omega, ?_⟩
   refine Mv.k2 ?_ ?_
   ·exact lsW
   ·exact swW
  ·rw [Ql2 c1] at hIu
   refine Br.no (Bool.eq_false_iff.2 fun q => c1 ((Qa2 (p := u ≤ j) (by rw [decide_eq_decide]; show (u : Int) ≤ j ↔ _; omega)).1 q)) (Go0 ?_)
   subst hIu
   generalize hJ : Go.Sort.scanDown (fun x => !Qb x e[a]!) e u j = J
   have hst := QqZ (b := b) (I := u) (J := J) hS (by rw [← hjb, ← hia]; exact hI) (by rw [← hjb]; exact hJ)
   refine Lp.mkK hΓ (ι := Nat) [1, 4, 10] (fun x => [(11, .c (.int .i64 x))]) (fun x => [arrO n e, .vr [.sl 0 7 n n false], .vr [lsC, swC n]]) (fun x => x ≤ j ∧ Go.Sort.scanDown (fun x => !Qb x e[a]!) e u x = J) (fun x => x) j ⟨Nat.le_refl _, hJ⟩ ?_ ?_
   ·refine Mv.k2 ?_ ?_
    ·exact lsW
    ·exact swW
   ·rintro v ⟨hv, hJv⟩
    refine Go0 ?_
    refine CallG.reads Qaf (fun hg => QaQ e n v a he hl (by omega) (by omega) rfl rfl) (fun hg => QaO he rfl rfl) rfl (Go0 ?_)
    by_cases c2 : u ≤ v ∧ (!Qb e[v]! e[a]!) = true
    ·have w4 : IntKind.i64.wrap ((v : Int) - 1) = ((v - 1 : Nat) : Int) := by rw [Qa _ (by omega) (by omega)]; omega
     rw [QjU (by omega) c2.1 c2.2] at hJv
     refine Br.yes ((Qa2 (p := u ≤ v) (by rw [decide_eq_decide]; show (u : Int) ≤ v ↔ _; omega)).2 c2) (Go0 ?_)
     refine ⟨v - 1, ⟨by omega, hJv⟩, by omega, ?_⟩
     refine Mv.k2 ?_ ?_
     ·exact lsW
     ·exact swW
    ·rw [Qin (by omega) c2] at hJv
     subst hJv
     refine Br.no (Bool.eq_false_iff.2 fun q => c2 ((Qa2 (p := u ≤ v) (by rw [decide_eq_decide]; show (u : Int) ≤ v ↔ _; omega)).1 q)) (Go0 ?_)
     by_cases c3 : u > v
     ·refine Br.yes (decide_eq_true (by show (u : Int) > v; omega)) (Go0 ?_)
      rw [if_pos c3] at hst
      refine Qbs rfl v a e rfl rfl he (by omega) (by omega) rfl rfl (Go0 ?_)
      rw [hst] at hR
      rw [← hR]
      refine ⟨_, _, ?_, rfl, rfl⟩
      exact RM.w0
     ·have w4 : IntKind.i64.wrap ((v : Int) - 1) = ((v - 1 : Nat) : Int) := by rw [Qa _ (by omega) (by omega)]; omega
      refine Br.no (decide_eq_false (by show ¬ (u : Int) > v; omega)) (Go0 ?_)
      refine Qbs rfl u v e rfl rfl he (by omega) (by omega) rfl rfl (Go0 ?_)
      rw [w3, w4]
      rw [if_neg c3, hR] at hst
      generalize hQ : Go.Sort.partLoop Qb a (u + 1) (v - 1) (Go.Sort.swp e u v) = Q at *
      refine Lp.mkK hΓ (ι := Nat × Nat × Array Fnd) [1, 4] (fun x => [(10, .c (.int .i64 x.1)), (11, .c (.int .i64 x.2.1))]) (fun x => [arrO n x.2.2, .vr [.sl 0 7 n n false], .vr [lsC, swC n]]) (fun x => a + 1 ≤ x.1 ∧ x.1 ≤ n ∧ x.2.1 < n ∧ x.2.2.size = n ∧ Go.Sort.partLoop Qb a x.1 x.2.1 x.2.2 = Q) (fun x => x.2.1 + 1 - x.1) (u + 1, v - 1, Go.Sort.swp e u v) ⟨by show a + 1 ≤ u + 1; omega, by show u + 1 ≤ n; omega, by show v - 1 < n; omega, by show (Go.Sort.swp e u v).size = n; rw [Q8]; exact he, hQ⟩ ?_ ?_
      ·refine Mv.k2 ?_ ?_
       ·exact lsW
       ·exact swW
      ·clear hI hJ hQ c1 c2 c3 w3 w4 hv hu0 hu he hi hj hS
       rintro ⟨i, j, e⟩ ⟨hi0, hi, hj, he, hQe⟩
       have hi0 : a + 1 ≤ i := hi0
       have hi : i ≤ n := hi
       have hj : j < n := hj
       have he : e.size = n := he
       have hQe : Go.Sort.partLoop Qb a i j e = Q := hQe
       generalize hI : Go.Sort.scanUp (fun x => Qb x e[a]!) e j i = I
       refine Lp.mkK hΓ (ι := Nat) [1, 4, 11] (fun x => [(10, .c (.int .i64 x))]) (fun x => [arrO n e, .vr [.sl 0 7 n n false], .vr [lsC, swC n]]) (fun x => i ≤ x ∧ x ≤ n ∧ Go.Sort.scanUp (fun x => Qb x e[a]!) e j x = I) (fun x => n + 1 - x) i ⟨Nat.le_refl _, hi, hI⟩ ?_ ?_
       ·refine Mv.k2 ?_ ?_
        ·exact lsW
        ·exact swW
       ·rintro u ⟨hu0, hu, hIu⟩
        have w3 : IntKind.i64.wrap ((u : Int) + 1) = ((u + 1 : Nat) : Int) := by rw [Qa _ (by omega) (by omega)]; omega
        refine Go0 ?_
        refine CallG.reads Qaf (fun hg => QaQ e n u a he hl (by have : (u : Int) ≤ j := of_decide_eq_true hg; omega) (by omega) rfl rfl) (fun hg => QaO he rfl rfl) rfl (Go0 ?_)
        by_cases c1 : u ≤ j ∧ Qb e[u]! e[a]! = true
        ·rw [Qrm c1.1 c1.2] at hIu
         refine Br.yes ((Qa2 (p := u ≤ j) (by rw [decide_eq_decide]; show (u : Int) ≤ j ↔ _; omega)).2 c1) (Go0 ?_)
         refine ⟨u + 1, ⟨by omega, by omega, hIu⟩, by omega, ?_⟩
         refine Mv.k2 ?_ ?_
         ·exact lsW
         ·exact swW
        ·rw [Ql2 c1] at hIu
         refine Br.no (Bool.eq_false_iff.2 fun q => c1 ((Qa2 (p := u ≤ j) (by rw [decide_eq_decide]; show (u : Int) ≤ j ↔ _; omega)).1 q)) (Go0 ?_)
         subst hIu
         generalize hJ : Go.Sort.scanDown (fun x => !Qb x e[a]!) e u j = J
         have hstB := QsY hI hJ
         rw [hstB] at hQe
         refine Lp.mkK hΓ (ι := Nat) [1, 4, 10] (fun x => [(11, .c (.int .i64 x))]) (fun x => [arrO n e, .vr [.sl 0 7 n n false], .vr [lsC, swC n]]) (fun x => x ≤ j ∧ Go.Sort.scanDown (fun x => !Qb x e[a]!) e u x = J) (fun x => x) j ⟨Nat.le_refl _, hJ⟩ ?_ ?_
         ·refine Mv.k2 ?_ ?_
          ·exact lsW
          ·exact swW
         ·rintro v ⟨hv, hJv⟩
          refine Go0 ?_
          refine CallG.reads Qaf (fun hg => QaQ e n v a he hl (by omega) (by omega) rfl rfl) (fun hg => QaO he rfl rfl) rfl (Go0 ?_)
          by_cases c2 : u ≤ v ∧ (!Qb e[v]! e[a]!) = true
          ·have w4 : IntKind.i64.wrap ((v : Int) - 1) = ((v - 1 : Nat) : Int) := by rw [Qa _ (by omega) (by omega)]; omega
           rw [QjU (by omega) c2.1 c2.2] at hJv
           refine Br.yes ((Qa2 (p := u ≤ v) (by rw [decide_eq_decide]; show (u : Int) ≤ v ↔ _; omega)).2 c2) (Go0 ?_)
           refine ⟨v - 1, ⟨by omega, hJv⟩, by omega, ?_⟩
           refine Mv.k2 ?_ ?_
           ·exact lsW
           ·exact swW
          ·rw [Qin (by omega) c2] at hJv
           subst hJv
           refine Br.no (Bool.eq_false_iff.2 fun q => c2 ((Qa2 (p := u ≤ v) (by rw [decide_eq_decide]; show (u : Int) ≤ v ↔ _; omega)).1 q)) (Go0 ?_)
           by_cases c3 : u > v
           ·refine Br.yes (decide_eq_true (by show (u : Int) > v; omega)) (Go0 ?_)
            rw [if_pos c3] at hQe
            refine Qbs rfl v a e rfl rfl he (by omega) (by omega) rfl rfl (Go0 ?_)
            rw [hst, ← hQe]
            refine ⟨_, _, ?_, rfl, rfl⟩
            exact RM.w0
           ·have w4 : IntKind.i64.wrap ((v : Int) - 1) = ((v - 1 : Nat) : Int) := by rw [Qa _ (by omega) (by omega)]; omega
            refine Br.no (decide_eq_false (by show ¬ (u : Int) > v; omega)) (Go0 ?_)
            refine Qbs rfl u v e rfl rfl he (by omega) (by omega) rfl rfl (Go0 ?_)
            rw [w3, w4]
            rw [if_neg c3, if_pos (by omega)] at hQe
            refine ⟨(u + 1, v - 1, Go.Sort.swp e u v), ⟨by show a + 1 ≤ u + 1; omega, by show u + 1 ≤ n; omega, by show v - 1 < n; omega, by show (Go.Sort.swp e u v).size = n; rw [Q8]; exact he, hQe⟩, by show v - 1 + 1 - (u + 1) < j + 1 - i; omega, ?_⟩
            refine Mv.k2 ?_ ?_
            ·exact lsW
            ·exact swW
theorem QrG : HB 138 := hB Tryz.func138
end Go.Proofs
end
