/- Contracts, lemmas; no condition. -/
import Derived.Test.YtkelkepdcfogaaaGreatP26D
import Derived.Lib.ItoaNum
set_option linter.all false
section
open Go Go.Am
namespace Go.Proofs
set_option maxRecDepth 20000
theorem Qto {d : Array Fnd} {b i : Nat} (h1 : i < b) (h2 : (!Qb d[i]! d[i - 1]!) = true) : Go.Sort.scanSorted Qb d b i = Go.Sort.scanSorted Qb d b (i + 1) := by
 rw [Go.Sort.scanSorted, if_pos (by rw [decide_eq_true h1, h2]; rfl)]
theorem Qp3 {d : Array Fnd} {b i : Nat} (h : ¬ (i < b ∧ (!Qb d[i]! d[i - 1]!) = true)) : Go.Sort.scanSorted Qb d b i = i := by
 rw [Go.Sort.scanSorted, if_neg fun q => h (by rw [Bool.and_eq_true, decide_eq_true_eq] at q; exact q)]
def Qqj (a b i : Nat) (d : Array Fnd) : Array Fnd := if i - a ≥ 2 then Go.Sort.shiftDown Qb (i - 1) (Go.Sort.swp d i (i - 1)) else Go.Sort.swp d i (i - 1)
def Qf2 (b i : Nat) (d : Array Fnd) : Array Fnd := if b - i ≥ 2 then Go.Sort.shiftUp Qb b (i + 1) d else d
theorem Qtb {a b s i I : Nat} {d : Array Fnd} (hI : Go.Sort.scanSorted Qb d b i = I) : Go.Sort.partialIns Qb a b (s + 1) i d = if I = b then (d, true) else if b - a < 50 then (d, false) else Go.Sort.partialIns Qb a b s I (Qf2 b I (Qqj a b I d)) := by
 subst hI
 rfl
set_option maxHeartbeats 8000000 in
theorem Qsl (n : Nat) (hl : n ≤ 1000000) (d : Array Fnd) (hd : d.size = n) (a b : Nat) (hab : a < b) (hb : b ≤ n) : CS 136 [.a [lsC, swC n], .c (.int .i64 a), .c (.int .i64 b)] (sH n d) fun s H => s = .c (.bool (Go.Sort.partialInsertionSort Qb d a b).2) ∧ H = sH n (Go.Sort.partialInsertionSort Qb d a b).1 := by
 have hR : Go.Sort.partialIns Qb a b 5 (a + 1) d = Go.Sort.partialInsertionSort Qb d a b := rfl
 generalize Go.Sort.partialInsertionSort Qb d a b = R at *
 have w2 : IntKind.i64.wrap ((a : Int) + 1) = ((a + 1 : Nat) : Int) := by rw [Qa _ (by omega) (by omega)]; omega
 have w5 : IntKind.i64.wrap ((b : Int) - a) = ((b - a : Nat) : Int) := by rw [Qa _ (by omega) (by omega)]; omega
 refine CSpec.rm ?_
 refine ov0 hΓ Tryz.func136 91 2 [.tmp 6] Tryz.ntmps136 Tryz.results136 ?_
 rw [w2]
 refine Lp.mkK hΓ (ι := Nat × Nat × Array Fnd) [1, 2, 3] (fun x => [(8, .c (.int .i64 x.1)), (7, .c (.int .i64 x.2.1))]) (fun x => [arrO n x.2.2, .vr [.sl 0 7 n n false], .vr [lsC, swC n]]) (fun x => x.1 ≤ 5 ∧ a + 1 ≤ x.2.1 ∧ x.2.1 ≤ b ∧ x.2.2.size = n ∧ Go.Sort.partialIns Qb a b (5 - x.1) x.2.1 x.2.2 = R) (fun x => 6 - x.1) (0, a + 1, d) ⟨Nat.zero_le _, Nat.le_refl _, by show a + 1 ≤ b; omega, hd, hR⟩ ?_ ?_
 ·refine Mv.k2 ?_ ?_
  ·exact lsW
  ·exact swW
 ·rintro ⟨j, i, e⟩ ⟨hj, hi0, hi, he, hRe⟩
  have hj : j ≤ 5 := hj
  have hi0 : a + 1 ≤ i := hi0
  have hi : i ≤ b := hi
  have he : e.size = n := he
  have hRe : Go.Sort.partialIns Qb a b (5 - j) i e = R := hRe
  have w9 : IntKind.i64.wrap ((j : Int) + 1) = ((j + 1 : Nat) : Int) := by rw [Qa _ (by omega) (by omega)]; omega
  refine Go0 ?_
  by_cases c1 : j < 5
  ·obtain ⟨s, hs⟩ : ∃ s, 5 - j = s + 1 := ⟨4 - j, by omega⟩
   rw [hs] at hRe
   refine Br.yes (decide_eq_true (by show (j : Int) < 5; omega)) (Go0 ?_)
   generalize hI : Go.Sort.scanSorted Qb e b i = I
   refine Lp.mkK hΓ (ι := Nat) [1, 2, 3, 8] (fun x => [(7, .c (.int .i64 x))]) (fun x => [arrO n e, .vr [.sl 0 7 n n false], .vr [lsC, swC n]]) (fun x => i ≤ x ∧ x ≤ b ∧ Go.Sort.scanSorted Qb e b x = I) (fun x => b + 1 - x) i ⟨Nat.le_refl _, hi, hI⟩ ?_ ?_
   ·refine Mv.k2 ?_ ?_
    ·exact lsW
    ·exact swW
   ·rintro u ⟨hu0, hu, hIu⟩
    have w3 : IntKind.i64.wrap ((u : Int) + 1) = ((u + 1 : Nat) : Int) := by rw [Qa _ (by omega) (by omega)]; omega
    have w4 : IntKind.i64.wrap ((u : Int) - 1) = ((u - 1 : Nat) : Int) := by rw [Qa _ (by omega) (by omega)]; omega
    have w6 : IntKind.i64.wrap ((b : Int) - u) = ((b - u : Nat) : Int) := by rw [Qa _ (by omega) (by omega)]; omega
    have w7 : IntKind.i64.wrap ((u : Int) - a) = ((u - a : Nat) : Int) := by rw [Qa _ (by omega) (by omega)]; omega
    refine Go0 ?_
    refine CallG.reads Qaf (fun hg => QaQ e n u (u - 1) he hl (by have := of_decide_eq_true hg; omega) (by have := of_decide_eq_true hg; omega) rfl w4) (fun hg => QaO he rfl rfl) rfl (Go0 ?_)
    by_cases c2 : u < b ∧ (!Qb e[u]! e[u - 1]!) = true
    ·rw [Qto c2.1 c2.2] at hIu
     refine Br.yes ((Qa2 (p := u < b) (by rw [decide_eq_decide]; omega)).2 c2) (Go0 ?_)
     refine ⟨u + 1, ⟨by omega, by omega, hIu⟩, by omega, ?_⟩
     refine Mv.k2 ?_ ?_
     ·exact lsW
     ·exact swW
    ·rw [Qp3 c2] at hIu
     subst hIu
     refine Br.no (Bool.eq_false_iff.2 fun q => c2 ((Qa2 (p := u < b) (by rw [decide_eq_decide]; omega)).1 q)) (Go0 ?_)
     rw [Qtb hI] at hRe
     by_cases c3 : u = b
     ·rw [if_pos c3] at hRe
      refine Br.yes (by subst c3; exact beq_self_eq_true _) (Go0 ?_)
      rw [← hRe]
      refine ⟨_, _, ?_, rfl, rfl⟩
      exact RM.w0
     ·rw [if_neg c3] at hRe
      refine Br.no (by show ((u : Int) == b) = false; exact beq_false_of_ne (by omega)) (Go0 ?_)
      by_cases c4 : b - a < 50
      ·rw [if_pos c4] at hRe
       refine Br.yes (by rw [w5]; exact decide_eq_true (by omega)) (Go0 ?_)
       rw [← hRe]
       refine ⟨_, _, ?_, rfl, rfl⟩
       exact RM.w0
      ·rw [if_neg c4] at hRe
       refine Br.no (by rw [w5]; exact decide_eq_false (by omega)) (Go0 ?_)
       refine Qbs rfl u (u - 1) e rfl w4 he (by omega) (by omega) rfl rfl (Go0 ?_)
       have hsz : (Go.Sort.swp e u (u - 1)).size = n := by rw [Q8]; exact he
       by_cases c5 : u - a ≥ 2
       ·refine Br.yes (by rw [w7]; exact decide_eq_true (by omega)) (Go0 ?_)
        rw [show Qqj a b u e = Go.Sort.shiftDown Qb (u - 1) (Go.Sort.swp e u (u - 1)) from if_pos c5] at hRe
        generalize hD : Go.Sort.shiftDown Qb (u - 1) (Go.Sort.swp e u (u - 1)) = D at hRe
        rw [w4]
        refine Lp.mkK hΓ (ι := Nat × Array Fnd) [1, 2, 3, 7, 8] (fun x => [(9, .c (.int .i64 x.1))]) (fun x => [arrO n x.2, .vr [.sl 0 7 n n false], .vr [lsC, swC n]]) (fun x => x.1 < u ∧ x.2.size = n ∧ Go.Sort.shiftDown Qb x.1 x.2 = D) (fun x => x.1) (u - 1, Go.Sort.swp e u (u - 1)) ⟨by show u - 1 < u; omega, hsz, hD⟩ ?_ ?_
        ·refine Mv.k2 ?_ ?_
         ·exact lsW
         ·exact swW
        ·rintro ⟨x, f⟩ ⟨hx, hf, hDx⟩
         have hx : x < u := hx
         have hf : f.size = n := hf
         have hDx : Go.Sort.shiftDown Qb x f = D := hDx
         refine Go0 ?_
         by_cases g1 : 1 ≤ x
         ·have v2 : IntKind.i64.wrap ((x : Int) - 1) = ((x - 1 : Nat) : Int) := by rw [Qa _ (by omega) (by omega)]; omega
          have hDs : Go.Sort.shiftDown Qb x f = if (!Qb f[x]! f[x - 1]!) = true then f else Go.Sort.shiftDown Qb (x - 1) (Go.Sort.swp f x (x - 1)) := by
           obtain ⟨y, rfl⟩ : ∃ y, x = y + 1 := ⟨x - 1, by omega⟩
           rfl
          rw [hDs] at hDx
          refine Br.yes (decide_eq_true (by show (x : Int) ≥ 1; omega)) (Go0 ?_)
          refine CallN.reads Qaf (QaQ f n x (x - 1) hf hl (by omega) (by omega) rfl v2) (QaO hf rfl rfl) rfl (Go0 ?_)
          cases g2 : Qb f[x]! f[x - 1]! with
          | true =>
           rw [g2, if_neg (by decide)] at hDx
           refine Br.no rfl (Go0 ?_)
           refine Qbs rfl x (x - 1) f rfl v2 hf (by omega) (by omega) rfl rfl (Go0 ?_)
           refine ⟨(x - 1, Go.Sort.swp f x (x - 1)), ⟨by show x - 1 < u; omega, by show (Go.Sort.swp f x (x - 1)).size = n; rw [Q8]; exact hf, hDx⟩, by show x - 1 < x; omega, ?_⟩
           rw [show IntKind.i64.wrap ((((x, f) : Nat × Array Fnd).1 : Int) - 1) = ((x - 1 : Nat) : Int) from v2]
           refine Mv.k2 ?_ ?_
           ·exact lsW
           ·exact swW
          | false =>
           rw [g2, if_pos (by decide)] at hDx
           refine Br.yes rfl (Go0 ?_)
           subst hDx
           by_cases c6 : b - u ≥ 2
           ·refine Br.yes (by rw [w6]; exact decide_eq_true (by omega)) (Go0 ?_)
            have hUe : Qf2 b u f = Go.Sort.shiftUp Qb b (u + 1) f := if_pos c6
            rw [hUe] at hRe
            generalize hU : Go.Sort.shiftUp Qb b (u + 1) f = U at hRe
            rw [w3]
            refine Lp.mkK hΓ (ι := Nat × Array Fnd) [1, 2, 3, 7, 8] (fun x => [(10, .c (.int .i64 x.1))]) (fun x => [arrO n x.2, .vr [.sl 0 7 n n false], .vr [lsC, swC n]]) (fun x => u + 1 ≤ x.1 ∧ x.1 ≤ b ∧ x.2.size = n ∧ Go.Sort.shiftUp Qb b x.1 x.2 = U) (fun x => b + 1 - x.1) (u + 1, f) ⟨Nat.le_refl _, by show u + 1 ≤ b; omega, hf, hU⟩ ?_ ?_
            ·refine Mv.k2 ?_ ?_
             ·exact lsW
             ·exact swW
            ·rintro ⟨x, f⟩ ⟨hx0, hx, hf, hUx⟩
             have hx0 : u + 1 ≤ x := hx0
             have hx : x ≤ b := hx
             have hf : f.size = n := hf
             have hUx : Go.Sort.shiftUp Qb b x f = U := hUx
             have v1 : IntKind.i64.wrap ((x : Int) + 1) = ((x + 1 : Nat) : Int) := by rw [Qa _ (by omega) (by omega)]; omega
             have v2 : IntKind.i64.wrap ((x : Int) - 1) = ((x - 1 : Nat) : Int) := by rw [Qa _ (by omega) (by omega)]; omega
             refine Go0 ?_
             rw [Go.Sort.shiftUp] at hUx
             by_cases g1 : x < b
             ·rw [if_pos g1] at hUx
              refine Br.yes (decide_eq_true (by show (x : Int) < b; omega)) (Go0 ?_)
              refine CallN.reads Qaf (QaQ f n x (x - 1) hf hl (by omega) (by omega) rfl v2) (QaO hf rfl rfl) rfl (Go0 ?_)
              cases g2 : Qb f[x]! f[x - 1]! with
              | true =>
               rw [g2] at hUx
               refine Br.no rfl (Go0 ?_)
               refine Qbs rfl x (x - 1) f rfl v2 hf (by omega) (by omega) rfl rfl (Go0 ?_)
               refine ⟨(x + 1, Go.Sort.swp f x (x - 1)), ⟨by show u + 1 ≤ x + 1; omega, by show x + 1 ≤ b; omega, by show (Go.Sort.swp f x (x - 1)).size = n; rw [Q8]; exact hf, by simpa using hUx⟩, by show b + 1 - (x + 1) < b + 1 - x; omega, ?_⟩
               rw [show IntKind.i64.wrap ((((x, f) : Nat × Array Fnd).1 : Int) + 1) = ((x + 1 : Nat) : Int) from v1]
               refine Mv.k2 ?_ ?_
               ·exact lsW
               ·exact swW
              | false =>
               rw [g2] at hUx
               refine Br.yes rfl (Go0 ?_)
               have hUx : f = U := by simpa using hUx
               subst hUx
               refine ⟨(j + 1, u, f), ⟨by show j + 1 ≤ 5; omega, by show a + 1 ≤ u; omega, by show u ≤ b; omega, hf, by show Go.Sort.partialIns Qb a b (5 - (j + 1)) u f = R; rw [show 5 - (j + 1) = s by omega]; exact hRe⟩, by show 6 - (j + 1) < 6 - j; omega, ?_⟩
               rw [show IntKind.i64.wrap ((((j, i, e) : Nat × Nat × Array Fnd).1 : Int) + 1) = ((j + 1 : Nat) : Int) from w9]
               refine Mv.k2 ?_ ?_
               ·exact lsW
               ·exact swW
             ·rw [if_neg g1] at hUx
              refine Br.no (decide_eq_false (by show ¬ (x : Int) < b; omega)) (Go0 ?_)
              subst hUx
              refine ⟨(j + 1, u, f), ⟨by show j + 1 ≤ 5; omega, by show a + 1 ≤ u; omega, by show u ≤ b; omega, hf, by show Go.Sort.partialIns Qb a b (5 - (j + 1)) u f = R; rw [show 5 - (j + 1) = s by omega]; exact hRe⟩, by show 6 - (j + 1) < 6 - j; omega, ?_⟩
              rw [show IntKind.i64.wrap ((((j, i, e) : Nat × Nat × Array Fnd).1 : Int) + 1) = ((j + 1 : Nat) : Int) from w9]
              refine Mv.k2 ?_ ?_
              ·exact lsW
              ·exact swW
           ·refine Br.no (by rw [w6]; exact decide_eq_false (by omega)) (Go0 ?_)
            have hUe : Qf2 b u f = f := if_neg c6
            rw [hUe] at hRe
            refine ⟨(j + 1, u, f), ⟨by show j + 1 ≤ 5; omega, by show a + 1 ≤ u; omega, by show u ≤ b; omega, hf, by show Go.Sort.partialIns Qb a b (5 - (j + 1)) u f = R; rw [show 5 - (j + 1) = s by omega]; exact hRe⟩, by show 6 - (j + 1) < 6 - j; omega, ?_⟩
            rw [show IntKind.i64.wrap ((((j, i, e) : Nat × Nat × Array Fnd).1 : Int) + 1) = ((j + 1 : Nat) : Int) from w9]
            refine Mv.k2 ?_ ?_
            ·exact lsW
            ·exact swW
         ·have hx0 : x = 0 := by omega
          subst hx0
          have hDx : f = D := hDx
          subst hDx
          refine Br.no rfl (Go0 ?_)
          by_cases c6 : b - u ≥ 2
          ·refine Br.yes (by rw [w6]; exact decide_eq_true (by omega)) (Go0 ?_)
           have hUe : Qf2 b u f = Go.Sort.shiftUp Qb b (u + 1) f := if_pos c6
           rw [hUe] at hRe
           generalize hU : Go.Sort.shiftUp Qb b (u + 1) f = U at hRe
           rw [w3]
           refine Lp.mkK hΓ (ι := Nat × Array Fnd) [1, 2, 3, 7, 8] (fun x => [(10, .c (.int .i64 x.1))]) (fun x => [arrO n x.2, .vr [.sl 0 7 n n false], .vr [lsC, swC n]]) (fun x => u + 1 ≤ x.1 ∧ x.1 ≤ b ∧ x.2.size = n ∧ Go.Sort.shiftUp Qb b x.1 x.2 = U) (fun x => b + 1 - x.1) (u + 1, f) ⟨Nat.le_refl _, by show u + 1 ≤ b; omega, hf, hU⟩ ?_ ?_
           ·refine Mv.k2 ?_ ?_
            ·exact lsW
            ·exact swW
           ·rintro ⟨x, f⟩ ⟨hx0, hx, hf, hUx⟩
            have hx0 : u + 1 ≤ x := hx0
            have hx : x ≤ b := hx
            have hf : f.size = n := hf
            have hUx : Go.Sort.shiftUp Qb b x f = U := hUx
            have v1 : IntKind.i64.wrap ((x : Int) + 1) = ((x + 1 : Nat) : Int) := by rw [Qa _ (by omega) (by omega)]; omega
            have v2 : IntKind.i64.wrap ((x : Int) - 1) = ((x - 1 : Nat) : Int) := by rw [Qa _ (by omega) (by omega)]; omega
            refine Go0 ?_
            rw [Go.Sort.shiftUp] at hUx
            by_cases g1 : x < b
            ·rw [if_pos g1] at hUx
             refine Br.yes (decide_eq_true (by show (x : Int) < b; omega)) (Go0 ?_)
             refine CallN.reads Qaf (QaQ f n x (x - 1) hf hl (by omega) (by omega) rfl v2) (QaO hf rfl rfl) rfl (Go0 ?_)
             cases g2 : Qb f[x]! f[x - 1]! with
             | true =>
              rw [g2] at hUx
              refine Br.no rfl (Go0 ?_)
              refine Qbs rfl x (x - 1) f rfl v2 hf (by omega) (by omega) rfl rfl (Go0 ?_)
              refine ⟨(x + 1, Go.Sort.swp f x (x - 1)), ⟨by show u + 1 ≤ x + 1; omega, by show x + 1 ≤ b; omega, by show (Go.Sort.swp f x (x - 1)).size = n; rw [Q8]; exact hf, by simpa using hUx⟩, by show b + 1 - (x + 1) < b + 1 - x; omega, ?_⟩
              rw [show IntKind.i64.wrap ((((x, f) : Nat × Array Fnd).1 : Int) + 1) = ((x + 1 : Nat) : Int) from v1]
              refine Mv.k2 ?_ ?_
              ·exact lsW
              ·exact swW
             | false =>
              rw [g2] at hUx
              refine Br.yes rfl (Go0 ?_)
              have hUx : f = U := by simpa using hUx
              subst hUx
              refine ⟨(j + 1, u, f), ⟨by show j + 1 ≤ 5; omega, by show a + 1 ≤ u; omega, by show u ≤ b; omega, hf, by show Go.Sort.partialIns Qb a b (5 - (j + 1)) u f = R; rw [show 5 - (j + 1) = s by omega]; exact hRe⟩, by show 6 - (j + 1) < 6 - j; omega, ?_⟩
              rw [show IntKind.i64.wrap ((((j, i, e) : Nat × Nat × Array Fnd).1 : Int) + 1) = ((j + 1 : Nat) : Int) from w9]
              refine Mv.k2 ?_ ?_
              ·exact lsW
              ·exact swW
            ·rw [if_neg g1] at hUx
             refine Br.no (decide_eq_false (by show ¬ (x : Int) < b; omega)) (Go0 ?_)
             subst hUx
             refine ⟨(j + 1, u, f), ⟨by show j + 1 ≤ 5; omega, by show a + 1 ≤ u; omega, by show u ≤ b; omega, hf, by show Go.Sort.partialIns Qb a b (5 - (j + 1)) u f = R; rw [show 5 - (j + 1) = s by omega]; exact hRe⟩, by show 6 - (j + 1) < 6 - j; omega, ?_⟩
             rw [show IntKind.i64.wrap ((((j, i, e) : Nat × Nat × Array Fnd).1 : Int) + 1) = ((j + 1 : Nat) : Int) from w9]
             refine Mv.k2 ?_ ?_
             ·exact lsW
             ·exact swW
          ·refine Br.no (by rw [w6]; exact decide_eq_false (by omega)) (Go0 ?_)
           have hUe : Qf2 b u f = f := if_neg c6
           rw [hUe] at hRe
           refine ⟨(j + 1, u, f), ⟨by show j + 1 ≤ 5; omega, by show a + 1 ≤ u; omega, by show u ≤ b; omega, hf, by show Go.Sort.partialIns Qb a b (5 - (j + 1)) u f = R; rw [show 5 - (j + 1) = s by omega]; exact hRe⟩, by show 6 - (j + 1) < 6 - j; omega, ?_⟩
           rw [show IntKind.i64.wrap ((((j, i, e) : Nat × Nat × Array Fnd).1 : Int) + 1) = ((j + 1 : Nat) : Int) from w9]
           refine Mv.k2 ?_ ?_
           ·exact lsW
           ·exact swW
       ·refine Br.no (by rw [w7]; exact decide_eq_false (by omega)) (Go0 ?_)
        rw [show Qqj a b u e = Go.Sort.swp e u (u - 1) from if_neg c5] at hRe
        generalize Go.Sort.swp e u (u - 1) = f at *
        have hf := hsz
        by_cases c6 : b - u ≥ 2
        ·refine Br.yes (by rw [w6]; exact decide_eq_true (by omega)) (Go0 ?_)
         have hUe : Qf2 b u f = Go.Sort.shiftUp Qb b (u + 1) f := if_pos c6
         rw [hUe] at hRe
         generalize hU : Go.Sort.shiftUp Qb b (u + 1) f = U at hRe
         rw [w3]
         refine Lp.mkK hΓ (ι := Nat × Array Fnd) [1, 2, 3, 7, 8] (fun x => [(10, .c (.int .i64 x.1))]) (fun x => [arrO n x.2, .vr [.sl 0 7 n n false], .vr [lsC, swC n]]) (fun x => u + 1 ≤ x.1 ∧ x.1 ≤ b ∧ x.2.size = n ∧ Go.Sort.shiftUp Qb b x.1 x.2 = U) (fun x => b + 1 - x.1) (u + 1, f) ⟨Nat.le_refl _, by show u + 1 ≤ b; omega, hf, hU⟩ ?_ ?_
         ·refine Mv.k2 ?_ ?_
          ·exact lsW
          ·exact swW
         ·rintro ⟨x, f⟩ ⟨hx0, hx, hf, hUx⟩
          have hx0 : u + 1 ≤ x := hx0
          have hx : x ≤ b := hx
          have hf : f.size = n := hf
          have hUx : Go.Sort.shiftUp Qb b x f = U := hUx
          have v1 : IntKind.i64.wrap ((x : Int) + 1) = ((x + 1 : Nat) : Int) := by rw [Qa _ (by omega) (by omega)]; omega
          have v2 : IntKind.i64.wrap ((x : Int) - 1) = ((x - 1 : Nat) : Int) := by rw [Qa _ (by omega) (by omega)]; omega
          refine Go0 ?_
          rw [Go.Sort.shiftUp] at hUx
          by_cases g1 : x < b
          ·rw [if_pos g1] at hUx
           refine Br.yes (decide_eq_true (by show (x : Int) < b; omega)) (Go0 ?_)
           refine CallN.reads Qaf (QaQ f n x (x - 1) hf hl (by omega) (by omega) rfl v2) (QaO hf rfl rfl) rfl (Go0 ?_)
           cases g2 : Qb f[x]! f[x - 1]! with
           | true =>
            rw [g2] at hUx
            refine Br.no rfl (Go0 ?_)
            refine Qbs rfl x (x - 1) f rfl v2 hf (by omega) (by omega) rfl rfl (Go0 ?_)
            refine ⟨(x + 1, Go.Sort.swp f x (x - 1)), ⟨by show u + 1 ≤ x + 1; omega, by show x + 1 ≤ b; omega, by show (Go.Sort.swp f x (x - 1)).size = n; rw [Q8]; exact hf, by simpa using hUx⟩, by show b + 1 - (x + 1) < b + 1 - x; omega, ?_⟩
            rw [show IntKind.i64.wrap ((((x, f) : Nat × Array Fnd).1 : Int) + 1) = ((x + 1 : Nat) : Int) from v1]
            refine Mv.k2 ?_ ?_
            ·exact lsW
            ·exact swW
           | false =>
            rw [g2] at hUx
            refine Br.yes rfl (Go0 ?_)
            have hUx : f = U := by simpa using hUx
            subst hUx
            refine ⟨(j + 1, u, f), ⟨by show j + 1 ≤ 5; omega, by show a + 1 ≤ u; omega, by show u ≤ b; omega, hf, by show Go.Sort.partialIns Qb a b (5 - (j + 1)) u f = R; rw [show 5 - (j + 1) = s by omega]; exact hRe⟩, by show 6 - (j + 1) < 6 - j; omega, ?_⟩
            rw [show IntKind.i64.wrap ((((j, i, e) : Nat × Nat × Array Fnd).1 : Int) + 1) = ((j + 1 : Nat) : Int) from w9]
            refine Mv.k2 ?_ ?_
            ·exact lsW
            ·exact swW
          ·rw [if_neg g1] at hUx
           refine Br.no (decide_eq_false (by show ¬ (x : Int) < b; omega)) (Go0 ?_)
           subst hUx
           refine ⟨(j + 1, u, f), ⟨by show j + 1 ≤ 5; omega, by show a + 1 ≤ u; omega, by show u ≤ b; omega, hf, by show Go.Sort.partialIns Qb a b (5 - (j + 1)) u f = R; rw [show 5 - (j + 1) = s by omega]; exact hRe⟩, by show 6 - (j + 1) < 6 - j; omega, ?_⟩
           rw [show IntKind.i64.wrap ((((j, i, e) : Nat × Nat × Array Fnd).1 : Int) + 1) = ((j + 1 : Nat) : Int) from w9]
           refine Mv.k2 ?_ ?_
           ·exact lsW
           ·exact swW
        ·refine Br.no (by rw [w6]; exact decide_eq_false (by omega)) (Go0 ?_)
         have hUe : Qf2 b u f = f := if_neg c6
         rw [hUe] at hRe
         refine ⟨(j + 1, u, f), ⟨by show j + 1 ≤ 5; omega, by show a + 1 ≤ u; omega, by show u ≤ b; omega, hf, by show Go.Sort.partialIns Qb a b (5 - (j + 1)) u f = R; rw [show 5 - (j + 1) = s by omega]; exact hRe⟩, by show 6 - (j + 1) < 6 - j; omega, ?_⟩
         rw [show IntKind.i64.wrap ((((j, i, e) : Nat × Nat × Array Fnd).1 : Int) + 1) = ((j + 1 : Nat) : Int) from w9]
         refine Mv.k2 ?_ ?_
         ·exact lsW
         ·exact swW
  ·have hj5 : j = 5 := by omega
   subst hj5
   have hRe : (e, false) = R := hRe
   refine Br.no rfl (Go0 ?_)
   rw [← hRe]
   refine ⟨_, _, ?_, rfl, rfl⟩
   exact RM.w0
theorem Qr4 : HB 136 := hB Tryz.func136
theorem QfA (n : Nat) (hl : n ≤ 1000000) (d : Array Fnd) (hd : d.size = n) (a b s : Nat) (ha : a < n) (hb : b < n) (hs : s ≤ 1000) : CS 176 [.a [lsC, swC n], .c (.int .i64 a), .c (.int .i64 b), .c (.ptr 2 0)] [arrO n d, .vr [.sl 0 7 n n false], .vr [.int .i64 s]] fun x H => x = .t [.inl (.int .i64 (Go.Sort.order2 Qb d a b s).1), .inl (.int .i64 (Go.Sort.order2 Qb d a b s).2.1)] ∧ H = [arrO n d, .vr [.sl 0 7 n n false], .vr [.int .i64 (Go.Sort.order2 Qb d a b s).2.2]] := by
 have w1 : IntKind.i64.wrap ((s : Int) + 1) = ((s + 1 : Nat) : Int) := by rw [Qa _ (by omega) (by omega)]; omega
 refine CSpec.rm ?_
 refine ov0 hΓ Tryz.func176 24 3 [.tmp 8, .tmp 9] Tryz.ntmps176 Tryz.results176 ?_
 refine CallN.reads Qaf (QaQ d n b a hd hl hb ha rfl rfl) (QaO hd rfl rfl) rfl (Go0 ?_)
 unfold Go.Sort.order2
 cases c : Qb d[b]! d[a]! with
 | true =>
  refine Br.yes rfl (Go0 ?_)
  rw [w1]
  refine ⟨_, _, ?_, rfl, rfl⟩
  exact RM.w0
 | false =>
  refine Br.no rfl (Go0 ?_)
  refine ⟨_, _, ?_, rfl, rfl⟩
  exact RM.w0
theorem Qfx : HB 176 := hB Tryz.func176
theorem QdZ {d : Array Fnd} {n a b s : Nat} (ha : a < n) (hb : b < n) : (Go.Sort.order2 Qb d a b s).1 < n ∧ (Go.Sort.order2 Qb d a b s).2.1 < n ∧ (Go.Sort.order2 Qb d a b s).2.2 ≤ s + 1 := by
 unfold Go.Sort.order2
 split
 ·exact ⟨hb, ha, Nat.le_refl _⟩
 ·exact ⟨ha, hb, Nat.le_succ _⟩
set_option maxHeartbeats 4000000 in
theorem Qfv (n : Nat) (hl : n ≤ 1000000) (d : Array Fnd) (hd : d.size = n) (a b c s : Nat) (ha : a < n) (hb : b < n) (hc : c < n) (hs : s ≤ 900) : CS 160 [.a [lsC, swC n], .c (.int .i64 a), .c (.int .i64 b), .c (.int .i64 c), .c (.ptr 2 0)] [arrO n d, .vr [.sl 0 7 n n false], .vr [.int .i64 s]] fun x H => x = .c (.int .i64 (Go.Sort.median Qb d a b c s).1) ∧ H = [arrO n d, .vr [.sl 0 7 n n false], .vr [.int .i64 (Go.Sort.median Qb d a b c s).2]] := by
 refine CSpec.rm ?_
 refine ov0 hΓ Tryz.func160 36 3 [.tmp 10] Tryz.ntmps160 Tryz.results160 ?_
 have hr : Go.Sort.median Qb d a b c s = ((Go.Sort.order2 Qb d (Go.Sort.order2 Qb d a b s).1 (Go.Sort.order2 Qb d (Go.Sort.order2 Qb d a b s).2.1 c (Go.Sort.order2 Qb d a b s).2.2).1 (Go.Sort.order2 Qb d (Go.Sort.order2 Qb d a b s).2.1 c (Go.Sort.order2 Qb d a b s).2.2).2.2).2.1, (Go.Sort.order2 Qb d (Go.Sort.order2 Qb d a b s).1 (Go.Sort.order2 Qb d (Go.Sort.order2 Qb d a b s).2.1 c (Go.Sort.order2 Qb d a b s).2.2).1 (Go.Sort.order2 Qb d (Go.Sort.order2 Qb d a b s).2.1 c (Go.Sort.order2 Qb d a b s).2.2).2.2).2.2) := rfl
 rw [hr]
 obtain ⟨p1, p2, p3⟩ := QdZ (d := d) (s := s) ha hb
 refine CallN.autoQ [0, 1, 2] Qfx (QfA n hl d hd a b s ha hb (by omega)) ?_ (ha := WB.cons (Qba rfl rfl leN) wb0)
 conv=>whnf
 simp only [QcO]
 refine Go0 ?_
 generalize Go.Sort.order2 Qb d a b s = r1 at *
 obtain ⟨q1, q2, q3⟩ := QdZ (d := d) (s := r1.2.2) p2 hc
 refine CallN.autoQ [0, 1, 2] Qfx (QfA n hl d hd r1.2.1 c r1.2.2 p2 hc (by omega)) ?_ (ha := WB.cons (Qba rfl rfl leN) wb0)
 conv=>whnf
 simp only [QcO]
 refine Go0 ?_
 generalize Go.Sort.order2 Qb d r1.2.1 c r1.2.2 = r2 at *
 refine CallN.autoQ [0, 1, 2] Qfx (QfA n hl d hd r1.1 r2.1 r2.2.2 p1 q1 (by omega)) ?_ (ha := WB.cons (Qba rfl rfl leN) wb0)
 conv=>whnf
 simp only [QcO]
 refine Go0 ?_
 refine ⟨_, _, ?_, rfl, rfl⟩
 exact RM.w0
theorem Qfr : HB 160 := hB Tryz.func160
theorem QgR {d : Array Fnd} {n a b c s : Nat} (ha : a < n) (hb : b < n) (hc : c < n) : (Go.Sort.median Qb d a b c s).1 < n ∧ (Go.Sort.median Qb d a b c s).2 ≤ s + 3 := by
 obtain ⟨p1, p2, p3⟩ := QdZ (d := d) (s := s) ha hb
 obtain ⟨q1, q2, q3⟩ := QdZ (d := d) (s := (Go.Sort.order2 Qb d a b s).2.2) p2 hc
 obtain ⟨r1, r2, r3⟩ := QdZ (d := d) (s := (Go.Sort.order2 Qb d (Go.Sort.order2 Qb d a b s).2.1 c (Go.Sort.order2 Qb d a b s).2.2).2.2) p1 q1
 exact ⟨r2, by unfold Go.Sort.median; show (Go.Sort.order2 _ _ _ _ _).2.2 ≤ s + 3; omega⟩
theorem Qfz (n : Nat) (hl : n ≤ 1000000) (d : Array Fnd) (hd : d.size = n) (a s : Nat) (h0 : 1 ≤ a) (ha : a + 1 < n) (hs : s ≤ 900) : CS 159 [.a [lsC, swC n], .c (.int .i64 a), .c (.ptr 2 0)] [arrO n d, .vr [.sl 0 7 n n false], .vr [.int .i64 s]] fun x H => x = .c (.int .i64 (Go.Sort.medianAdjacent Qb d a s).1) ∧ H = [arrO n d, .vr [.sl 0 7 n n false], .vr [.int .i64 (Go.Sort.medianAdjacent Qb d a s).2]] := by
 have w1 : IntKind.i64.wrap ((a : Int) + 1) = ((a + 1 : Nat) : Int) := by rw [Qa _ (by omega) (by omega)]; omega
 have w2 : IntKind.i64.wrap ((a : Int) - 1) = ((a - 1 : Nat) : Int) := by rw [Qa _ (by omega) (by omega)]; omega
 refine CSpec.rm ?_
 refine ov0 hΓ Tryz.func159 15 3 [.tmp 6] Tryz.ntmps159 Tryz.results159 ?_
 rw [w1, w2]
 refine CallN.autoQ [0, 1, 2] Qfr (Qfv n hl d hd (a - 1) a (a + 1) s (by omega) (by omega) ha hs) ?_ (ha := WB.cons (Qba rfl rfl leN) wb0)
 conv=>whnf
 simp only [QcO]
 refine Go0 ?_
 refine ⟨_, _, ?_, rfl, rfl⟩
 exact RM.w0
theorem Qft : HB 159 := hB Tryz.func159
def QuI : Go.Sort.Hint → Int
 | .unknown => 0
 | .increasing => 1
 | .decreasing => 2
def pivR (r : Nat × Nat) : Nat × Go.Sort.Hint := (r.1, if r.2 = 0 then .increasing else if r.2 = 12 then .decreasing else .unknown)
theorem Qtl {d : Array Fnd} {a b L : Nat} (hL : b - a = L) (h : L ≥ 50) : Go.Sort.choosePivot Qb d a b = pivR (Go.Sort.median Qb d (Go.Sort.medianAdjacent Qb d (a + L / 4 * 1) 0).1 (Go.Sort.medianAdjacent Qb d (a + L / 4 * 2) (Go.Sort.medianAdjacent Qb d (a + L / 4 * 1) 0).2).1 (Go.Sort.medianAdjacent Qb d (a + L / 4 * 3) (Go.Sort.medianAdjacent Qb d (a + L / 4 * 2) (Go.Sort.medianAdjacent Qb d (a + L / 4 * 1) 0).2).2).1 (Go.Sort.medianAdjacent Qb d (a + L / 4 * 3) (Go.Sort.medianAdjacent Qb d (a + L / 4 * 2) (Go.Sort.medianAdjacent Qb d (a + L / 4 * 1) 0).2).2).2) := by
 subst hL
 unfold Go.Sort.choosePivot pivR
 simp only [if_pos (show b - a ≥ 8 by omega), if_pos h]
theorem Qob {d : Array Fnd} {a b L : Nat} (hL : b - a = L) (h8 : L ≥ 8) (h : ¬ L ≥ 50) : Go.Sort.choosePivot Qb d a b = pivR (Go.Sort.median Qb d (a + L / 4 * 1) (a + L / 4 * 2) (a + L / 4 * 3) 0) := by
 subst hL
 unfold Go.Sort.choosePivot pivR
 simp only [if_pos h8, if_neg h]
set_option maxHeartbeats 4000000 in
theorem QqC (n : Nat) (hl : n ≤ 1000000) (d : Array Fnd) (hd : d.size = n) (a b : Nat) (hab : a + 12 < b) (hb : b ≤ n) : CS 134 [.a [lsC, swC n], .c (.int .i64 a), .c (.int .i64 b)] (sH n d) fun x H => x = .t [.inl (.int .i64 (Go.Sort.choosePivot Qb d a b).1), .inl (.int .i64 (QuI (Go.Sort.choosePivot Qb d a b).2))] ∧ H = sH n d := by
 have w1 : IntKind.i64.wrap ((b : Int) - a) = ((b - a : Nat) : Int) := by rw [Qa _ (by omega) (by omega)]; omega
 generalize hL : b - a = L at *
 have w2 : ((L : Int)).tdiv 4 = ((L / 4 : Nat) : Int) := by rw [Int.tdiv_eq_ediv_of_nonneg (by omega)]; omega
 have w3 : IntKind.i64.wrap ((L / 4 : Nat) : Int) = ((L / 4 : Nat) : Int) := Qa _ (by omega) (by omega)
 have v1 : IntKind.i64.wrap ((a : Int) + IntKind.i64.wrap (((L / 4 : Nat) : Int) * 1)) = ((a + L / 4 * 1 : Nat) : Int) := by rw [Qa (((L / 4 : Nat) : Int) * 1) (by omega) (by omega), Qa _ (by omega) (by omega)]; omega
 have v2 : IntKind.i64.wrap ((a : Int) + IntKind.i64.wrap (((L / 4 : Nat) : Int) * 2)) = ((a + L / 4 * 2 : Nat) : Int) := by rw [Qa (((L / 4 : Nat) : Int) * 2) (by omega) (by omega), Qa _ (by omega) (by omega)]; omega
 have v3 : IntKind.i64.wrap ((a : Int) + IntKind.i64.wrap (((L / 4 : Nat) : Int) * 3)) = ((a + L / 4 * 3 : Nat) : Int) := by rw [Qa (((L / 4 : Nat) : Int) * 3) (by omega) (by omega), Qa _ (by omega) (by omega)]; omega
 refine CSpec.rm ?_
 refine ov0 hΓ Tryz.func134 57 2 [.tmp 6, .tmp 7] Tryz.ntmps134 Tryz.results134 ?_
 rw [w1, w2, w3, v1, v2, v3]
 refine Br.yes (decide_eq_true (by omega)) (Go0 ?_)
 by_cases c : L ≥ 50
 ·have hcp := Qtl (d := d) hL c
  generalize hi : a + L / 4 * 1 = i at *
  generalize hj : a + L / 4 * 2 = j at *
  generalize hk : a + L / 4 * 3 = k at *
  refine Br.yes (decide_eq_true (by omega)) (Go0 ?_)
  refine CallN.autoQ [0, 1, 3] Qft (Qfz n hl d hd i 0 (by omega) (by omega) (by omega)) ?_ (ha := WB.cons (Qba rfl rfl leN) wb0)
  conv=>whnf
  simp only [QcO]
  refine Go0 ?_
  obtain ⟨p1, p2⟩ := QgR (d := d) (n := n) (a := i - 1) (b := i) (c := i + 1) (s := 0) (by omega) (by omega) (by omega)
  rw [show Go.Sort.median Qb d (i - 1) i (i + 1) 0 = Go.Sort.medianAdjacent Qb d i 0 from rfl] at p1 p2
  generalize Go.Sort.medianAdjacent Qb d i 0 = ri at *
  refine CallN.autoQ [0, 1, 3] Qft (Qfz n hl d hd j ri.2 (by omega) (by omega) (by omega)) ?_ (ha := WB.cons (Qba rfl rfl leN) wb0)
  conv=>whnf
  simp only [QcO]
  refine Go0 ?_
  obtain ⟨q1, q2⟩ := QgR (d := d) (n := n) (a := j - 1) (b := j) (c := j + 1) (s := ri.2) (by omega) (by omega) (by omega)
  rw [show Go.Sort.median Qb d (j - 1) j (j + 1) ri.2 = Go.Sort.medianAdjacent Qb d j ri.2 from rfl] at q1 q2
  generalize Go.Sort.medianAdjacent Qb d j ri.2 = rj at *
  refine CallN.autoQ [0, 1, 3] Qft (Qfz n hl d hd k rj.2 (by omega) (by omega) (by omega)) ?_ (ha := WB.cons (Qba rfl rfl leN) wb0)
  conv=>whnf
  simp only [QcO]
  refine Go0 ?_
  obtain ⟨s1, s2⟩ := QgR (d := d) (n := n) (a := k - 1) (b := k) (c := k + 1) (s := rj.2) (by omega) (by omega) (by omega)
  rw [show Go.Sort.median Qb d (k - 1) k (k + 1) rj.2 = Go.Sort.medianAdjacent Qb d k rj.2 from rfl] at s1 s2
  generalize Go.Sort.medianAdjacent Qb d k rj.2 = rk at *
  refine CallN.autoQ [0, 1, 3] Qfr (Qfv n hl d hd ri.1 rj.1 rk.1 rk.2 p1 q1 s1 (by omega)) ?_ (ha := WB.cons (Qba rfl rfl leN) wb0)
  conv=>whnf
  simp only [QcO]
  refine Go0 ?_
  generalize Go.Sort.median Qb d ri.1 rj.1 rk.1 rk.2 = r at *
  by_cases g1 : (r).2 = 0
  ·refine Br.yes (by rw [g1]; rfl) (Go0 ?_)
   rw [show Go.Sort.choosePivot Qb d a b = ((r).1, .increasing) by rw [hcp]; unfold pivR; rw [if_pos g1]]
   refine ⟨_, _, ?_, rfl, rfl⟩
   exact RM.w0
  ·refine Br.no (by show (((r).2 : Int) == 0) = false; exact beq_false_of_ne (by omega)) (Go0 ?_)
   by_cases g2 : (r).2 = 12
   ·refine Br.yes (by rw [g2]; rfl) (Go0 ?_)
    rw [show Go.Sort.choosePivot Qb d a b = ((r).1, .decreasing) by rw [hcp]; unfold pivR; rw [if_neg g1, if_pos g2]]
    refine ⟨_, _, ?_, rfl, rfl⟩
    exact RM.w0
   ·refine Br.no (by show (((r).2 : Int) == 12) = false; exact beq_false_of_ne (by omega)) (Go0 ?_)
    rw [show Go.Sort.choosePivot Qb d a b = ((r).1, .unknown) by rw [hcp]; unfold pivR; rw [if_neg g1, if_neg g2]]
    refine ⟨_, _, ?_, rfl, rfl⟩
    exact RM.w0
 ·have hcp := Qob (d := d) hL (by omega) c
  refine Br.no (decide_eq_false (by omega)) (Go0 ?_)
  refine CallN.autoQ [0, 1, 3] Qfr (Qfv n hl d hd (a + L / 4 * 1) (a + L / 4 * 2) (a + L / 4 * 3) 0 (by omega) (by omega) (by omega) (by omega)) ?_ (ha := WB.cons (Qba rfl rfl leN) wb0)
  conv=>whnf
  simp only [QcO]
  refine Go0 ?_
  generalize Go.Sort.median Qb d (a + L / 4 * 1) (a + L / 4 * 2) (a + L / 4 * 3) 0 = r at *
  by_cases g1 : (r).2 = 0
  ·refine Br.yes (by rw [g1]; rfl) (Go0 ?_)
   rw [show Go.Sort.choosePivot Qb d a b = ((r).1, .increasing) by rw [hcp]; unfold pivR; rw [if_pos g1]]
   refine ⟨_, _, ?_, rfl, rfl⟩
   exact RM.w0
  ·refine Br.no (by show (((r).2 : Int) == 0) = false; exact beq_false_of_ne (by omega)) (Go0 ?_)
   by_cases g2 : (r).2 = 12
   ·refine Br.yes (by rw [g2]; rfl) (Go0 ?_)
    rw [show Go.Sort.choosePivot Qb d a b = ((r).1, .decreasing) by rw [hcp]; unfold pivR; rw [if_neg g1, if_pos g2]]
    refine ⟨_, _, ?_, rfl, rfl⟩
    exact RM.w0
   ·refine Br.no (by show (((r).2 : Int) == 12) = false; exact beq_false_of_ne (by omega)) (Go0 ?_)
    rw [show Go.Sort.choosePivot Qb d a b = ((r).1, .unknown) by rw [hcp]; unfold pivR; rw [if_neg g1, if_neg g2]]
    refine ⟨_, _, ?_, rfl, rfl⟩
    exact RM.w0
theorem QrF : HB 134 := hB Tryz.func134
theorem Qrh (x : Int) : CS 158 [.c (.ptr 0 0)] [.vr [.int .u64 x]] fun s H => ∃ y : Int, (0 ≤ y ∧ y < 18446744073709551616) ∧ s = .c (.int .u64 y) ∧ H = [.vr [.int .u64 y]] := by
 refine CSpec.rm ?_
 refine ov0 hΓ Tryz.func158 33 1 [.tmp 2] Tryz.ntmps158 Tryz.results158 ?_
 refine Dr.mk hΓ hMix (by kernel_rfl) (Go0 ?_)
 refine Dr.mk hΓ hMix (by kernel_rfl) (Go0 ?_)
 refine Dr.mk hΓ hMix (by kernel_rfl) (Go0 ?_)
 have key : ∀ E : Int, ∃ s' H'', RM 1 (.c (.int .u64 (IntKind.u64.wrap E))) [.vr [.int .u64 (IntKind.u64.wrap E)]] s' H'' ∧ ∃ y : Int, (0 ≤ y ∧ y < 18446744073709551616) ∧ s' = .c (.int .u64 y) ∧ H'' = [.vr [.int .u64 y]] := fun E => by
  refine ⟨.c (.int .u64 (IntKind.u64.wrap E)), [.vr [.int .u64 (IntKind.u64.wrap E)]], ?_, IntKind.u64.wrap E, ?_, rfl, rfl⟩
  ·exact RM.w0
  ·rw [IntKind.wrap_u64]; omega
 exact key _
theorem Qp2 : HB 158 := hB Tryz.func158
theorem Ql7 (x : Nat) (hx : x ≤ 1000000) : PS 89 [.c (.int .u64 x)] (.c (.int .i64 (Go.Lib.bitLen x))) := by
 refine PSpec.ofCalls fun F μ w vs hA => ⟨.int .i64 (Go.Lib.bitLen x), fun _ _ => rfl, ?_⟩
 obtain ⟨v, v1, v2⟩ := hA.2 0 _ rfl
 have hvs : vs = #[.int .u64 x] := by
  apply Array.ext_getElem?
  intro j
  match j with
  | 0 => rw [v1]; exact congrArg some v2
  | j + 1 => rw [Array.getElem?_eq_none (by rw [hA.1]; simp), Array.getElem?_eq_none (by simp)]
 subst hvs
 have h := Any.bits_Len (LaysGg.n13.bits { Tryz.laySlice with }) (x : Int) w (by omega) (by omega)
 change Calls Tryz.prog 89 _ w _ at h
 refine h.mono ?_
 rintro e w' ⟨rfl, rfl⟩
 exact ⟨rfl, Go.RowKit.Below.refl _ _⟩
theorem Qnv : HB 89 := hB Tryz.func89
theorem QgZ (x : Nat) (hx : x ≤ 1000000) (h1 : 1 ≤ x) : x < 2 ^ Go.Lib.bitLen x ∧ 2 ^ Go.Lib.bitLen x ≤ 2 * x ∧ Go.Lib.bitLen x ≤ 20 := by
 obtain ⟨a, b, c⟩ := Go.Lib.bitLenAux_bounds 64 x (by omega) (by omega)
 have e : Go.Lib.bitLen x = Go.Lib.bitLenAux 64 x := rfl
 rw [e]
 generalize Go.Lib.bitLenAux 64 x = k at *
 obtain ⟨m, rfl⟩ : ∃ m, k = m + 1 := ⟨k - 1, by omega⟩
 rw [Nat.add_sub_cancel] at b
 refine ⟨c, by rw [Nat.pow_succ]; omega, ?_⟩
 by_cases q : m < 20
 ·omega
 ·have := Nat.pow_le_pow_right (show 0 < 2 by decide) (show 20 ≤ m by omega)
  omega
theorem QsI (x : Nat) (hx : x ≤ 1000000) (h1 : 1 ≤ x) : PS 157 [.c (.int .i64 x)] (.c (.int .u64 ((2 ^ Go.Lib.bitLen x : Nat) : Int))) := by
 refine PSpec.rm ?_
 refine ov0 hΓ Tryz.func157 10 0 [.tmp 2] Tryz.ntmps157 Tryz.results157 ?_
 rw [show IntKind.u64.wrap (x : Int) = (x : Int) by rw [IntKind.wrap_u64]; omega]
 obtain ⟨b1, b2, b3⟩ := QgZ x hx h1
 refine CallN.pureA Qnv (Ql7 x hx ) (Go0 ?_)
 generalize Go.Lib.bitLen x = k at *
 have w : IntKind.u64.wrap (k : Int) = (k : Int) := by rw [IntKind.wrap_u64]; omega
 refine Need.mk (by rw [w]; omega) (Go0 ?_)
 rw [w]
 have e : IntKind.u64.wrap (1 * 2 ^ min ((k : Int)).toNat IntKind.u64.bits) = ((2 ^ k : Nat) : Int) := by
  have h1 : min ((k : Int)).toNat IntKind.u64.bits = k := by
   show min k 64 = k
   omega
  rw [h1, Int.one_mul]
  have h2 : ((2 ^ k : Nat) : Int) = (2 : Int) ^ k := by push_cast; rfl
  rw [← h2, IntKind.wrap_u64]
  omega
 rw [e]
 exact RM.i0
theorem QrU : HB 157 := hB Tryz.func157
theorem QvZ (y m : Int) (hm : 1 ≤ m) (hm2 : m ≤ 4294967296) : 0 ≤ IntKind.u64.wrap (BitVec.ofInt IntKind.u64.bits y &&& BitVec.ofInt IntKind.u64.bits (m - 1)).toNat ∧ IntKind.u64.wrap (BitVec.ofInt IntKind.u64.bits y &&& BitVec.ofInt IntKind.u64.bits (m - 1)).toNat < m := by
 have h1 : (BitVec.ofInt IntKind.u64.bits (m - 1)).toNat = (m - 1).toNat := by
  show (BitVec.ofInt 64 (m - 1)).toNat = _
  rw [BitVec.toNat_ofInt]
  omega
 have h2 : (BitVec.ofInt IntKind.u64.bits y &&& BitVec.ofInt IntKind.u64.bits (m - 1)).toNat ≤ (m - 1).toNat := by
  rw [BitVec.toNat_and, ← h1]
  exact Nat.and_le_right
 rw [IntKind.wrap_u64]
 omega
set_option maxHeartbeats 4000000 in
theorem Qri (n : Nat) (hl : n ≤ 1000000) (d : Array Fnd) (hd : d.size = n) (a b : Nat) (hab : a + 12 < b) (hb : b ≤ n) : CS 133 [.a [lsC, swC n], .c (.int .i64 a), .c (.int .i64 b)] (sH n d) fun s H => ∃ e : Array Fnd, (e.size = n ∧ Go.Sort.PermIn a b d e) ∧ s = .t [] ∧ H = sH n e := by
 have w1 : IntKind.i64.wrap ((b : Int) - a) = ((b - a : Nat) : Int) := by rw [Qa _ (by omega) (by omega)]; omega
 generalize hL : b - a = L at *
 refine CSpec.rm ?_
 refine ov0 hΓ Tryz.func133 54 2 [] Tryz.ntmps133 Tryz.results133 ?_
 rw [w1]
 refine Br.yes (decide_eq_true (by omega)) (Go0 ?_)
 refine CallN.pureA QrU (QsI L (by omega) (by omega) ) (Go0 ?_)
 have w2 : ((L : Int)).tdiv 4 = ((L / 4 : Nat) : Int) := by rw [Int.tdiv_eq_ediv_of_nonneg (by omega)]; omega
 have w3 : IntKind.i64.wrap ((L / 4 : Nat) : Int) = ((L / 4 : Nat) : Int) := Qa _ (by omega) (by omega)
 have w4 : IntKind.i64.wrap ((a : Int) + IntKind.i64.wrap (((L / 4 : Nat) : Int) * 2)) = ((a + L / 4 * 2 : Nat) : Int) := by rw [Qa (((L / 4 : Nat) : Int) * 2) (by omega) (by omega), Qa _ (by omega) (by omega)]; omega
 have w5 : IntKind.i64.wrap (((a + L / 4 * 2 : Nat) : Int) - 1) = ((a + L / 4 * 2 - 1 : Nat) : Int) := by rw [Qa _ (by omega) (by omega)]; omega
 have w6 : IntKind.i64.wrap (((a + L / 4 * 2 : Nat) : Int) + 1) = ((a + L / 4 * 2 + 1 : Nat) : Int) := by rw [Qa _ (by omega) (by omega)]; omega
 obtain ⟨m1, m2, m3⟩ := QgZ L (by omega) (by omega)
 generalize hM : 2 ^ Go.Lib.bitLen L = M at *
 rw [w2, w3, w4, w5]
 refine Lp.mkK hΓ (ι := Nat × Int × Array Fnd) [1, 3, 6, 7, 8] (fun x => [(9, .c (.int .i64 x.1))]) (fun x => [arrO n x.2.2, .vr [.sl 0 7 n n false], .vr [lsC, swC n], .vr [.int .u64 x.2.1]]) (fun x => a ≤ x.1 ∧ x.1 ≤ a + L / 4 * 2 + 2 ∧ x.2.2.size = n ∧ Go.Sort.PermIn a b d x.2.2) (fun x => a + L / 4 * 2 + 3 - x.1) (a + L / 4 * 2 - 1, IntKind.u64.wrap (L : Int), d) ⟨by show a ≤ a + L / 4 * 2 - 1; omega, by show a + L / 4 * 2 - 1 ≤ _; omega, hd, Go.Sort.permIn_refl d a b⟩ ?_ ?_
 ·refine Mv.k2 ?_ ?_
  ·exact lsW
  ·exact swW
 ·rintro ⟨i, y, e⟩ ⟨hi0, hi, he, hp⟩
  have hi0 : a ≤ i := hi0
  have hi : i ≤ a + L / 4 * 2 + 2 := hi
  have he : e.size = n := he
  have hp : Go.Sort.PermIn a b d e := hp
  have w7 : IntKind.i64.wrap ((i : Int) + 1) = ((i + 1 : Nat) : Int) := by rw [Qa _ (by omega) (by omega)]; omega
  refine Go0 ?_
  rw [w2, w3, w4, w6]
  by_cases c1 : i ≤ a + L / 4 * 2 + 1
  ·refine Br.yes (decide_eq_true (by show (i : Int) ≤ _; omega)) (Go0 ?_)
   refine CallN.exI [3] Qp2 (Qrh y) (fun _ => plh) (fun z hz => ?_); conv=>whnf
   refine Go0 ?_
   have w8 : IntKind.u64.wrap ((M : Int) - 1) = (M : Int) - 1 := by rw [IntKind.wrap_u64]; omega
   rw [w8]
   obtain ⟨x0, x1⟩ := QvZ z M (by omega) (by omega)
   generalize IntKind.u64.wrap ((BitVec.ofInt IntKind.u64.bits z &&& BitVec.ofInt IntKind.u64.bits ((M : Int) - 1)).toNat : Int) = x at *
   obtain ⟨o, rfl⟩ := Int.eq_ofNat_of_zero_le x0
   have w9 : IntKind.i64.wrap (o : Int) = (o : Int) := Qa _ (by omega) (by omega)
   rw [w9]
   have hiN : i < n := by omega
   by_cases c2 : o ≥ L
   ·refine Br.yes (decide_eq_true (by omega)) (Go0 ?_)
    have v1 : IntKind.i64.wrap ((o : Int) - L) = ((o - L : Nat) : Int) := by rw [Qa _ (by omega) (by omega)]; omega
    have v2 : IntKind.i64.wrap ((a : Int) + ((o - L : Nat) : Int)) = ((a + (o - L) : Nat) : Int) := by rw [Qa _ (by omega) (by omega)]; omega
    rw [v1]
    refine Qbs rfl i (a + (o - L)) e rfl v2 he hiN (by omega) rfl rfl (Go0 ?_)
    rw [show IntKind.i64.wrap ((((i, y, e) : Nat × Int × Array Fnd).1 : Int) + 1) = ((i + 1 : Nat) : Int) from w7]
    refine ⟨(i + 1, z, Go.Sort.swp e i (a + (o - L))), ⟨by show a ≤ i + 1; omega, by show i + 1 ≤ _; omega, by show (Go.Sort.swp e i _).size = n; rw [Q8]; exact he, Go.Sort.permIn_trans _ _ _ _ _ hp (Go.Sort.swp_permIn e a b i (a + (o - L)) hi0 (by omega) (by omega) (by omega) (by omega))⟩, by show a + L / 4 * 2 + 3 - (i + 1) < a + L / 4 * 2 + 3 - i; omega, ?_⟩
    refine Mv.k2 ?_ ?_
    ·exact lsW
    ·exact swW
   ·refine Br.no (decide_eq_false (by omega)) (Go0 ?_)
    have v2 : IntKind.i64.wrap ((a : Int) + (o : Int)) = ((a + o : Nat) : Int) := by rw [Qa _ (by omega) (by omega)]; omega
    refine Qbs rfl i (a + o) e rfl v2 he hiN (by omega) rfl rfl (Go0 ?_)
    rw [show IntKind.i64.wrap ((((i, y, e) : Nat × Int × Array Fnd).1 : Int) + 1) = ((i + 1 : Nat) : Int) from w7]
    refine ⟨(i + 1, z, Go.Sort.swp e i (a + o)), ⟨by show a ≤ i + 1; omega, by show i + 1 ≤ _; omega, by show (Go.Sort.swp e i _).size = n; rw [Q8]; exact he, Go.Sort.permIn_trans _ _ _ _ _ hp (Go.Sort.swp_permIn e a b i (a + o) hi0 (by omega) (by omega) (by omega) (by omega))⟩, by show a + L / 4 * 2 + 3 - (i + 1) < a + L / 4 * 2 + 3 - i; omega, ?_⟩
    refine Mv.k2 ?_ ?_
    ·exact lsW
    ·exact swW
  ·refine Br.no (decide_eq_false (by show ¬ (i : Int) ≤ _; omega)) (Go0 ?_)
   refine ⟨.t [], sH n e, ?_, e, ⟨he, hp⟩, rfl, rfl⟩
   exact RM.w0
theorem QpZ : HB 133 := hB Tryz.func133
end Go.Proofs
end
