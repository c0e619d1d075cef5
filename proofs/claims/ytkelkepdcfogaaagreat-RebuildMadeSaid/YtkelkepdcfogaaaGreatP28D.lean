/- Contracts, lemmas; no condition. -/
import Derived.Test.YtkelkepdcfogaaaGreatP11D
import Derived.Test.YtkelkepdcfogaaaGreatP26D
import Derived.Test.YtkelkepdcfogaaaGreatP27D
import Derived.Test.YtkelkepdcfogaaaGreatP14D
import Derived.Sort.LotD3
import Derived.Shelf.GgSortFunc.Slice
import Derived.Shelf.GgSortFunc.Tiny
set_option linter.all false
section
open Go Go.Am
namespace Go.Proofs
set_option maxRecDepth 20000
theorem Qng : HB 90 := hB Tryz.func90
theorem pin_cond {x y : Bool} {z : Int} : (bif (bif x then y else false) then z == 1 else false) = true ↔ (x = true ∧ y = true) ∧ z = 1 := by
 cases x <;> cases y <;> simp
set_option maxHeartbeats 8000000 in
theorem QtJ (hO : Go.Sort.SWO Qb) (n : Nat) (hl : n ≤ 1000000) (d : Array Fnd) (hd : d.size = n) (a b lim : Nat) (hab : a ≤ b) (hb : b ≤ n) (hlim : lim ≤ 1000) (hB : Go.Sort.Below Qb a b d) : CS 90 [.a [lsC, swC n], .c (.int .i64 a), .c (.int .i64 b), .c (.int .i64 lim)] (sH n d) fun s H => ∃ e : Array Fnd, (e.size = n ∧ Go.Sort.PermIn a b d e ∧ Go.Sort.SortedIn Qb a b e) ∧ s = .t [] ∧ H = sH n e := by
 induction hM : b - a using Nat.strongRecOn generalizing d a b lim with
 | _ M ih =>
 refine CSpec.rm ?_
 refine CSpec.of_aw hΓ Tryz.func90 130 2 [] Tryz.ntmps90 ?_
 refine AWn.seq hΓ (Go0 ?_)
 refine AWn.seq hΓ (Go0 ?_)
 refine AWn.seq hΓ (Go0 ?_)
 refine AWn.block ?_
 refine AWn.loop ?_
 refine Lp.mkA (ι := Nat × Nat × Nat × Bool × Bool × Array Fnd) [4] (fun x => [(1, .c (.int .i64 x.1)), (2, .c (.int .i64 x.2.1)), (3, .c (.int .i64 x.2.2.1)), (8, .c (.bool x.2.2.2.1)), (9, .c (.bool x.2.2.2.2.1))]) (fun x => [arrO n x.2.2.2.2.2, .vr [.sl 0 7 n n false], .vr [lsC, swC n]]) (fun x => x.1 ≤ x.2.1 ∧ x.2.1 - x.1 ≤ M ∧ x.2.1 ≤ n ∧ x.2.2.1 ≤ 1000 ∧ x.2.2.2.2.2.size = n ∧ Go.Sort.Below Qb x.1 x.2.1 x.2.2.2.2.2 ∧ ∀ R, Go.Sort.PermIn x.1 x.2.1 x.2.2.2.2.2 R → Go.Sort.SortedIn Qb x.1 x.2.1 R → Go.Sort.PermIn a b d R ∧ Go.Sort.SortedIn Qb a b R) (fun x => x.2.1 - x.1) (a, b, lim, true, true, d) ⟨hab, Nat.le_of_eq hM, hb, hlim, hd, hB, fun R h1 h2 => ⟨h1, h2⟩⟩ ?_ ?_
 ·refine Mv.k2 ?_ ?_
  ·exact lsW
  ·exact swW
 ·rintro ⟨p, q, m, wb, wp, e⟩ ⟨hpq, hqM, hq, hm, he, hBe, hcl⟩
  refine AWn.block ?_
  refine AWn.seq hΓ (Go0 ?_)
  refine AWn.seq hΓ (Go0 ?_)
  have hpq : p ≤ q := hpq
  have hqM : q - p ≤ M := hqM
  have hq : q ≤ n := hq
  have hm : m ≤ 1000 := hm
  have he : e.size = n := he
  have hBe : Go.Sort.Below Qb p q e := hBe
  have hcl : ∀ R, Go.Sort.PermIn p q e R → Go.Sort.SortedIn Qb p q R → Go.Sort.PermIn a b d R ∧ Go.Sort.SortedIn Qb a b R := hcl
  have w1 : IntKind.i64.wrap ((q : Int) - p) = ((q - p : Nat) : Int) := by rw [Qa _ (by omega) (by omega)]; omega
  rw [show IntKind.i64.wrap ((((p, q, m, wb, wp, e) : Nat × Nat × Nat × Bool × Bool × Array Fnd).2.1 : Int) - (((p, q, m, wb, wp, e) : Nat × Nat × Nat × Bool × Bool × Array Fnd).1 : Int)) = ((q - p : Nat) : Int) from w1]
  by_cases c1 : q - p ≤ 12
  ·refine Br.yes (decide_eq_true (by omega)) (Go0 ?_)
   refine CallN.autoQ [0, 1] Qoh (Qop n hl e he p q hpq hq) ?_ (ha := WB.cons (Qba rfl rfl leN) wb0)
   refine Go0 ?_
   obtain ⟨r1, r2⟩ := Go.Sort.insertionSort_holds (lt := Qb) hO e p q hpq (by omega)
   obtain ⟨r3, r4⟩ := hcl _ r1 r2
   refine ⟨.t [], sH n (Go.Sort.insertionSort Qb e p q), ?_, _, ⟨r1.1.trans he, r3, r4⟩, rfl, rfl⟩
   refine RM.w1 ?_
   exact fun i _ j _ => WC.reI (Qv _ _)
  ·refine Br.no (decide_eq_false (by omega)) (Go0 ?_)
   refine AWn.seq hΓ (Go0 ?_)
   by_cases c2 : m = 0
   ·refine Br.yes (by subst c2; rfl) (Go0 ?_)
    refine CallN.autoQ [0, 1] QsQ (Qr0 n hl e he p q hpq hq) ?_ (ha := WB.cons (Qba rfl rfl leN) wb0)
    refine Go0 ?_
    obtain ⟨r1, r2⟩ := Go.Sort.heapSort_holds (lt := Qb) hO e p q hpq (by omega)
    obtain ⟨r3, r4⟩ := hcl _ r1 r2
    refine ⟨.t [], sH n (Go.Sort.heapSort Qb e p q), ?_, _, ⟨r1.1.trans he, r3, r4⟩, rfl, rfl⟩
    refine RM.w1 ?_
    exact fun i _ j _ => WC.reI (Qv _ _)
   ·refine Br.no (by show ((m : Int) == 0) = false; exact beq_false_of_ne (by omega)) (Go0 ?_)
    refine AWn.join hΓ (ι := Nat × Array Fnd) [1, 2, 4, 8, 9, 10] (fun x => [(3, .c (.int .i64 x.1))]) (fun x => [arrO n x.2, .vr [.sl 0 7 n n false], .vr [lsC, swC n]]) (fun x => x.1 ≤ 1000 ∧ x.2.size = n ∧ Go.Sort.PermIn p q e x.2) ?_ ?_
    ·refine Go0 ?_
     cases wb with
     | true =>
      refine Br.no rfl (Go0 ?_)
      refine ⟨(m, e), ⟨hm, he, Go.Sort.permIn_refl e p q⟩, ?_⟩
      refine Mv.k2 ?_ ?_
      ·exact lsW
      ·exact swW
     | false =>
      refine Br.yes rfl (Go0 ?_)
      refine CallN.exQ [0, 1] QpZ (Qri n hl e he p q (by omega) hq) (fun f hf => ?_) (by decide) wb0 rfl (WB.cons (Qba rfl rfl leN) wb0)
      refine Go0 ?_
      have w2 : IntKind.i64.wrap ((m : Int) - 1) = ((m - 1 : Nat) : Int) := by rw [Qa _ (by omega) (by omega)]; omega
      refine ⟨(m - 1, f), ⟨by show m - 1 ≤ 1000; omega, hf.1, hf.2⟩, ?_⟩
      rw [← w2]
      refine Mv.k3 ?_ ?_ ?_
      ·exact fun i _ j _ => WC.reI (Qv _ _)
      ·exact lsW
      ·exact swW
    ·rintro ⟨m2, e2⟩ ⟨hm2, he2, hp2⟩
     have hm2 : m2 ≤ 1000 := hm2
     have he2 : e2.size = n := he2
     have hp2 : Go.Sort.PermIn p q e e2 := hp2
     refine AWn.seq hΓ (Go0 ?_)
     refine CallN.autoQ [0, 1] QrF (QqC n hl e2 he2 p q (by omega) hq) ?_ (ha := WB.cons (Qba rfl rfl leN) wb0)
     refine Go0 ?_
     have hpv := Go.Sort.choosePivot_holds Qb e2 p q (by omega)
     generalize Go.Sort.choosePivot Qb e2 p q = cp at *
     obtain ⟨pv, hint⟩ := cp
     have hpv : p ≤ pv ∧ pv < q := hpv
     refine AWn.join hΓ (ι := Nat × Int × Array Fnd) [1, 2, 3, 4, 8, 9, 10] (fun x => [(11, .c (.int .i64 x.1)), (12, .c (.int .i64 x.2.1))]) (fun x => [arrO n x.2.2, .vr [.sl 0 7 n n false], .vr [lsC, swC n]]) (fun x => (p ≤ x.1 ∧ x.1 < q) ∧ x.2.2.size = n ∧ Go.Sort.PermIn p q e x.2.2) ?_ ?_
     ·refine Go0 ?_
      by_cases c3 : hint = .decreasing
      ·subst c3
       refine Br.yes rfl (Go0 ?_)
       refine CallN.autoQ [0, 1] Qmn (Qm9 n hl e2 he2 p q (by omega) hq) ?_ (h := WR.cons rfl (WO.arrA (fun i _ j _ => WC.reI (Qv _ _))) (by exact wb0)) (ha := WB.cons (Qba rfl rfl leN) wb0)
       refine Go0 ?_
       have hpv : p ≤ pv ∧ pv < q := hpv
       have hrv := Go.Sort.reverseRange_holds e2 p q (by omega) (by omega)
       have w3 : IntKind.i64.wrap (IntKind.i64.wrap ((q : Int) - 1) - IntKind.i64.wrap ((pv : Int) - p)) = ((q - 1 - (pv - p) : Nat) : Int) := by
        rw [Qa ((q : Int) - 1) (by omega) (by omega), Qa ((pv : Int) - p) (by omega) (by omega), Qa _ (by omega) (by omega)]; omega
       refine ⟨(q - 1 - (pv - p), 1, Go.Sort.reverseRange e2 p q), ⟨⟨by show p ≤ q - 1 - (pv - p); omega, by show q - 1 - (pv - p) < q; omega⟩, hrv.1.trans he2, Go.Sort.permIn_trans _ _ _ _ _ hp2 hrv⟩, ?_⟩
       rw [← w3]
       refine Mv.k3 ?_ ?_ ?_
       ·exact fun i _ j _ => WC.reI (Qv _ _)
       ·exact lsW
       ·exact swW
      ·refine Br.no (by cases hint <;> first | rfl | exact absurd rfl c3) ?_
       refine Go0 ?_
       refine ⟨(pv, QuI hint, e2), ⟨hpv, he2, hp2⟩, ?_⟩
       refine Mv.k3 ?_ ?_ ?_
       ·exact fun i _ j _ => WC.reI (Qv _ _)
       ·exact lsW
       ·exact swW
     ·rintro ⟨pv2, hi2, e3⟩ ⟨hpv2, he3, hp3⟩
      have hpv2 : p ≤ pv2 ∧ pv2 < q := hpv2
      have he3 : e3.size = n := he3
      have hp3 : Go.Sort.PermIn p q e e3 := hp3
      have hB3 : Go.Sort.Below Qb p q e3 := hBe.perm (by omega) hp3
      refine AWn.join hΓ (ι := Array Fnd) [1, 2, 3, 4, 8, 9, 10, 11] (fun x => []) (fun x => [arrO n x, .vr [.sl 0 7 n n false], .vr [lsC, swC n]]) (fun x => x.size = n ∧ Go.Sort.PermIn p q e x) ?_ ?_
      ·refine Go0 ?_
       by_cases c4 : (wb = true ∧ wp = true) ∧ hi2 = 1
       ·refine Br.yes (pin_cond.2 c4) (Go0 ?_)
        refine CallN.autoQ [0, 1] Qr4 (Qsl n hl e3 he3 p q (by omega) hq) ?_ (ha := WB.cons (Qba rfl rfl leN) wb0)
        refine Go0 ?_
        obtain ⟨r1, r2⟩ := Go.Sort.partialInsertionSort_holds (lt := Qb) hO e3 p q (by omega) (by omega) hB3
        cases c5 : (Go.Sort.partialInsertionSort Qb e3 p q).2 with
        | true =>
         refine Br.yes rfl (Go0 ?_)
         obtain ⟨r3, r4⟩ := hcl _ (Go.Sort.permIn_trans _ _ _ _ _ hp3 r1) (r2 c5)
         refine ⟨.t [], sH n (Go.Sort.partialInsertionSort Qb e3 p q).1, ?_, _, ⟨r1.1.trans he3, r3, r4⟩, rfl, rfl⟩
         refine RM.w1 ?_
         exact fun i _ j _ => WC.reI (Qv _ _)
        | false =>
         refine Br.no rfl (Go0 ?_)
         refine ⟨(Go.Sort.partialInsertionSort Qb e3 p q).1, ⟨r1.1.trans he3, Go.Sort.permIn_trans _ _ _ _ _ hp3 r1⟩, ?_⟩
         refine Mv.k3 ?_ ?_ ?_
         ·exact fun i _ j _ => WC.reI (Qv _ _)
         ·exact lsW
         ·exact swW
       ·refine Br.no (Bool.eq_false_iff.2 fun q => c4 (pin_cond.1 q)) (Go0 ?_)
        refine ⟨e3, ⟨he3, hp3⟩, ?_⟩
        refine Mv.k2 ?_ ?_
        ·exact lsW
        ·exact swW
      ·rintro e4 ⟨he4, hp4⟩
       have he4 : e4.size = n := he4
       have hp4 : Go.Sort.PermIn p q e e4 := hp4
       have hB4 : Go.Sort.Below Qb p q e4 := hBe.perm (by omega) hp4
       refine AWn.join hΓ (ι := Unit) [1, 2, 3, 4, 8, 9, 10, 11] (fun _ => []) (fun _ => [arrO n e4, .vr [.sl 0 7 n n false], .vr [lsC, swC n]]) (fun _ => True) ?_ ?_
       ·refine Go0 ?_
        have w8 : 0 < p → IntKind.i64.wrap ((p : Int) - 1) = ((p - 1 : Nat) : Int) := fun h => by rw [Qa _ (by omega) (by omega)]; omega
        refine CallG.reads Qaf (fun hg => QaQ e4 n (p - 1) pv2 he4 hl (by omega) (by omega) (w8 (by have := of_decide_eq_true hg; omega)) rfl) (fun hg => QaO he4 rfl rfl) rfl (Go0 ?_)
        by_cases c6 : 0 < p ∧ (!Qb e4[p - 1]! e4[pv2]!) = true
        ·refine Br.yes ((Qa2 (p := 0 < p) (by rw [decide_eq_decide]; omega)).2 c6) (Go0 ?_)
         refine CallN.autoQ [0, 1] QoD (QoN n hl e4 he4 p q pv2 hpv2.1 hpv2.2 hq) ?_ (ha := WB.cons (Qba rfl rfl leN) wb0)
         refine Go0 ?_
         obtain ⟨t1, t2, t3, t4, t5⟩ := Go.Sort.round_eq (lt := Qb) hO (Go.Sort.partitionEqual_holds _) c6.1 hpv2.1 hpv2.2 (by omega) hB4 (by simpa using c6.2) (Prod.eta (Go.Sort.partitionEqual Qb e4 p q pv2)).symm
         refine ⟨((Go.Sort.partitionEqual Qb e4 p q pv2).1, q, m2, wb, wp, (Go.Sort.partitionEqual Qb e4 p q pv2).2), ⟨t2, by show q - _ ≤ M; omega, hq, hm2, t3.trans he4, t4, fun R h1 h2 => ?_⟩, by show q - (Go.Sort.partitionEqual Qb e4 p q pv2).1 < q - p; omega, ?_⟩
         ·obtain ⟨t6, t7⟩ := t5 R h1 h2
          exact hcl R (Go.Sort.permIn_trans _ _ _ _ _ hp4 t6) t7
         ·refine Mv.k3 ?_ ?_ ?_
          ·exact fun i _ j _ => WC.reI (Qv _ _)
          ·exact lsW
          ·exact swW
        ·refine Br.no (Bool.eq_false_iff.2 fun q => c6 ((Qa2 (p := 0 < p) (by rw [decide_eq_decide]; omega)).1 q)) (Go0 ?_)
         refine ⟨(), trivial, ?_⟩
         refine Mv.k2 ?_ ?_
         ·exact lsW
         ·exact swW
       ·rintro ⟨⟩ _
        refine AWn.ofVc hΓ (Go0 ?_)
        refine CallN.autoQ [0, 1] QrG (Qsv n hl e4 he4 p q pv2 hpv2.1 hpv2.2 hq) ?_ (ha := WB.cons (Qba rfl rfl leN) wb0)
        refine Go0 ?_
        obtain ⟨t1, t2, t3, t4, t5, t6, t7⟩ := Go.Sort.round_part (lt := Qb) hO (Go.Sort.partition_holds _) hpv2.1 hpv2.2 (by omega) hB4 (show Go.Sort.partition Qb e4 p q pv2 = ((Go.Sort.partition Qb e4 p q pv2).1, (Go.Sort.partition Qb e4 p q pv2).2.1, (Go.Sort.partition Qb e4 p q pv2).2.2) from rfl)
        generalize (Go.Sort.partition Qb e4 p q pv2).1 = mid at *
        generalize (Go.Sort.partition Qb e4 p q pv2).2.1 = ap at *
        generalize (Go.Sort.partition Qb e4 p q pv2).2.2 = e5 at *
        have v1 : IntKind.i64.wrap ((mid : Int) - p) = ((mid - p : Nat) : Int) := by rw [Qa _ (by omega) (by omega)]; omega
        have v2 : IntKind.i64.wrap ((q : Int) - mid) = ((q - mid : Nat) : Int) := by rw [Qa _ (by omega) (by omega)]; omega
        have he5 : e5.size = n := t3.trans he4
        by_cases c7 : mid - p < q - mid
        ·refine Br.yes (by show decide (IntKind.i64.wrap ((mid : Int) - p) < IntKind.i64.wrap ((q : Int) - mid)) = true; rw [v1, v2]; exact decide_eq_true (by omega)) (Go0 ?_)
         refine CallN.exQ [0, 1] Qng (ih (mid - p) (by omega) e5 he5 p mid m2 t1 (by omega) hm2 t4 rfl) (fun f hf => ?_) (by decide) (by exact WR.cons rfl (WO.arrA (fun i _ j _ => WC.reI (Qv _ _))) (by exact wb0)) rfl (WB.cons (Qba rfl rfl leN) wb0)
         refine Go0 ?_
         obtain ⟨u1, u2⟩ := t6 f hf.2.1 hf.2.2
         refine ⟨(mid + 1, q, m2, decide (IntKind.i64.wrap ((mid : Int) - p) ≥ IntKind.i64.wrap (((q - p : Nat) : Int).tdiv 8)), ap, f), ⟨by show mid + 1 ≤ q; omega, by show q - (mid + 1) ≤ M; omega, hq, hm2, hf.1, u1, fun R h1 h2 => ?_⟩, by show q - (mid + 1) < q - p; omega, ?_⟩
         ·obtain ⟨t6, t7⟩ := u2 R h1 h2
          exact hcl R (Go.Sort.permIn_trans _ _ _ _ _ hp4 t6) t7
         ·rw [show IntKind.i64.wrap ((mid : Int) + 1) = ((mid + 1 : Nat) : Int) by rw [Qa _ (by omega) (by omega)]; omega]
          refine Mv.k3 ?_ ?_ ?_
          ·exact fun i _ j _ => WC.reI (Qv _ _)
          ·exact lsW
          ·exact swW
        ·refine Br.no (by show decide (IntKind.i64.wrap ((mid : Int) - p) < IntKind.i64.wrap ((q : Int) - mid)) = false; rw [v1, v2]; exact decide_eq_false (by omega)) (Go0 ?_)
         rw [show IntKind.i64.wrap ((mid : Int) + 1) = ((mid + 1 : Nat) : Int) by rw [Qa _ (by omega) (by omega)]; omega]
         refine CallN.exQ [0, 1] Qng (ih (q - (mid + 1)) (by omega) e5 he5 (mid + 1) q m2 (by omega) hq hm2 t5 rfl) (fun f hf => ?_) (by decide) (by exact WR.cons rfl (WO.arrA (fun i _ j _ => WC.reI (Qv _ _))) (by exact wb0)) rfl (WB.cons (Qba rfl rfl leN) wb0)
         refine Go0 ?_
         obtain ⟨u1, u2⟩ := t7 f hf.2.1 hf.2.2
         refine ⟨(p, mid, m2, decide (IntKind.i64.wrap ((q : Int) - mid) ≥ IntKind.i64.wrap (((q - p : Nat) : Int).tdiv 8)), ap, f), ⟨t1, by show mid - p ≤ M; omega, by show mid ≤ n; omega, hm2, hf.1, u1, fun R h1 h2 => ?_⟩, by show mid - p < q - p; omega, ?_⟩
         ·obtain ⟨t6, t7⟩ := u2 R h1 h2
          exact hcl R (Go.Sort.permIn_trans _ _ _ _ _ hp4 t6) t7
         ·refine Mv.k3 ?_ ?_ ?_
          ·exact fun i _ j _ => WC.reI (Qv _ _)
          ·exact lsW
          ·exact swW
theorem QdY {a b : Fnd} : Qb a b = true ↔ a.r.block < b.r.block ∨ (a.r.block = b.r.block ∧ (b.r.version < a.r.version ∨ (a.r.version = b.r.version ∧ (b.r.move < a.r.move ∨ (a.r.move = b.r.move ∧ (a.zone < b.zone ∨ (a.zone = b.zone ∧ a.offset < b.offset))))))) := by
 unfold Qb Qw
 rw [Bool.or_eq_true, Bool.and_eq_true, decide_eq_true_eq, decide_eq_true_eq]
 refine or_congr Iff.rfl (and_congr Iff.rfl ?_)
 split
 ·split
  ·split
   ·rw [decide_eq_true_eq]; omega
   ·rw [decide_eq_true_eq]; omega
  ·rw [decide_eq_true_eq]; omega
 ·rw [decide_eq_true_eq]; omega
theorem Quk : Go.Sort.SWO Qb := by
 refine ⟨fun x => ?_, fun x y z h1 h2 => ?_, fun x y z h1 h2 => ?_⟩
 ·rw [Bool.eq_false_iff, ne_eq, QdY]; omega
 ·rw [QdY] at *; omega
 ·rw [Bool.eq_false_iff, ne_eq, QdY] at *; omega
noncomputable def sfK : Nat := 25
def lsO (ov : Nat) : C := .fn (.func 47) 1 fun _ => .ptr ov 0
def swO (oa n : Nat) : C := .fn (.func 128) 2 fun | 0 => .sl oa 7 n n false | _ => .raw sfG 71
theorem Qwi {ρ : Nat → Nat} {m n oa ov : Nat} (h0 : ρ 0 = oa) (h1 : ρ 1 = ov) (h : 2 ≤ m) : WS ρ m (.a [lsO ov, swO oa n]) (.a [lsC, swC n]) :=
 WS.a (WL.cons ⟨rfl, rfl, fun j hj => ⟨h1.symm, rfl, by omega⟩⟩ (WL.cons ⟨rfl, rfl, fun j hj => by
  match j, hj with
  | 0, _ => exact ⟨h0.symm, rfl, rfl, rfl, by omega, fun e => e⟩
  | 1, _ => exact wkC.imm rfl⟩ WL.nil))
theorem Qv6 (p : Option Addr) (n c : Nat) (h1 : n ≤ 1) (lf : Fn) (la lb : Array Value) (w : World) :
  Calls Tryz.prog 46 #[.iface 60 (.slice p n c), .func lf la lb] w fun e w' => e = .returned (.tuple #[]) ∧ ∃ os, w' = Go.Sort.grow w os := by
 have hK : Go.Lib.swapperK n sfE 25 = n + 1 := by
  rcases Nat.eq_zero_or_pos n with h | h
  ·subst h; simp [Go.Lib.swapperK]
  ·obtain rfl : n = 1 := by omega
   simp [Go.Lib.swapperK]
 exact Any.sort_Slice_tiny Tryz.laySlice 60 71 sfT sfE (by kernel_rfl) (by kernel_rfl) (by kernel_rfl) (by kernel_rfl) 25 (fun _ => by kernel_rfl) p n c h1 (120 + n) (by
  rw [hK]
  rcases Nat.eq_zero_or_pos n with h | h
  ·subst h; kernel_rfl
  ·obtain rfl : n = 1 := by omega
   kernel_rfl) lf la lb w
theorem QjS : HB 46 := hB Tryz.func46
theorem Qlv : ∃ fn : Func, Tryz.prog.funcs[46]? = some fn ∧ fn.body.isSome = true ∧ (fn.name == "runtime.NumGoroutine") = false := by
 obtain ⟨fn, f1, f2, f3⟩ := QjS
 exact ⟨fn, f1, f2, f3⟩
theorem Qrf {X : Cx} (hP : X.P = Tryz.prog) {K : Keep} {F0 : Mem} {H0 : List O} {μ0 : Nat → Value} {ts : Ts} {H : List O} {F : Mem} {μ : Nat → Value} {a : Act} {w : World} {n oa ov : Nat} {g : Nat → Nat → C} {x2 : Bool}
  (hs : Sat X K F0 H0 μ0 ts H F μ a w) (h0 : getL H oa = some (.arr 71 7 n g)) (hn : n ≤ 1000000) {va vp : Value}
  (hva : RepC F H μ (.sl oa 7 n n x2) va) (hvp : RepC F H μ (.ptr ov 0) vp) {q : List O → Prop} (hq : n ≤ 1 → q H)
  (hc : ∀ lim : Nat, lim ≤ 1000 → CSpec (Tryz.prog) 90 [.a [lsO ov, swO oa n], .c (.int .i64 (0 : Nat)), .c (.int .i64 n), .c (.int .i64 lim)] H fun s H' => s = .t [] ∧ q H') :
  Calls X.P 46 #[.iface 60 va, .func (.func 47) #[] #[vp]] w fun e w' => e = .returned (.tuple #[]) ∧ ∃ H' F' μ', q H' ∧ Sat X K F0 H0 μ0 ts H' F' μ' a w' := by
 have hva' := hva
 obtain ⟨o1, e', n', g', g1, -, -, hva⟩ := hva
 rw [h0] at g1
 cases g1
 obtain ⟨p, cap, m0, rfl, -⟩ := hva rfl
 by_cases h1 : n ≤ 1
 ·rw [hP]
  refine (Qv6 p n cap h1 _ _ _ w).mono ?_
  rintro e w' ⟨rfl, os, rfl⟩
  exact ⟨rfl, H, F, μ, hq h1, hs.le, hs.ext, hs.hs.grown (QpR w os), hs.tp, hs.sz, hs.df, hs.n0⟩
 ·have hK : Go.Lib.swapperK n sfE 25 = 9 := by
   have e1 : (n == 0) = false := by simp; omega
   have e2 : (n == 1) = false := by simp; omega
   have e3 : (sfE.hasPointers && sfE.bytes == 8) = false := by kernel_rfl
   have e4 : (sfE.hasPointers && ((25 : Nat) == 24)) = false := by kernel_rfl
   have e5 : sfE.hasPointers = true := by kernel_rfl
   unfold Go.Lib.swapperK
   rw [e1, e2, e3, e4, e5]
   rfl
  have hB : sliceBound Tryz.prog 71 sfE 25 p n cap = #[.slice p n cap, typeHandle Tryz.prog 71] := by
   unfold sliceBound
   rw [hK]
   rfl
  have hg : w.grownBy (sliceWorld Tryz.prog Tryz.laySlice_ren 60 p n cap w) none := by
   unfold sliceWorld
   rw [Go.Sort.alloc_eq_grow, Go.Sort.alloc_eq_grow, Go.Sort.grow_grow]
   exact QpR w _
  have hlim : Go.Lib.bitLen n ≤ 1000 := by have := (QgZ n hn (by omega)).2.2; omega
  rw [hP]
  refine Any.sort_Slice_of_pdq Tryz.laySlice 60 71 sfT sfE (by kernel_rfl) (by kernel_rfl) (by kernel_rfl) (by kernel_rfl) 25 (fun _ => by kernel_rfl) p n cap (by omega) 128 (by rw [hK]; kernel_rfl) (.func 47) #[] #[vp] w _ ?_
  rw [hB]
  have hc' := hc (Go.Lib.bitLen n) hlim
  rw [← hP] at hc' ⊢
  refine CSpec.at_grown hc' hs (by rw [hP]; exact hg) ?_
  have hfn : RepC F H μ (lsO ov) (.func (.func 47) #[] #[vp]) := ⟨_, rfl, rfl, fun j hj => by
   have : j = 0 := by omega
   subst this
   exact ⟨vp, rfl, hvp⟩⟩
  have hsw : RepC F H μ (swO oa n) (.func (.func 128) #[] #[.slice p n cap, typeHandle X.P 71]) := ⟨_, rfl, rfl, fun j hj => by
   match j, hj with
   | 0, _ => exact ⟨_, rfl, o1, _, _, _, h0, Nat.le_refl _, Nat.le_refl _, fun _ => ⟨p, cap, m0, rfl, fun e => by cases e⟩⟩
   | 1, _ => exact ⟨_, rfl, by rw [hP]; show Value.pointer _ = Value.pointer _; rw [← sfG_eq]⟩⟩
  have hag : RepL F H μ [lsO ov, swO oa n] #[.func (.func 47) #[] #[vp], .func (.func 128) #[] #[.slice p n cap, typeHandle X.P 71]] := ⟨rfl, fun j x hx => by
   match j with
   | 0 => simp only [getL, Option.some.injEq] at hx; subst hx; exact ⟨_, rfl, hfn⟩
   | 1 => simp only [getL, Option.some.injEq] at hx; subst hx; exact ⟨_, rfl, hsw⟩
   | j + 2 => simp [getL] at hx⟩
  refine ⟨rfl, fun j s hx => ?_⟩
  match j with
  | 0 => simp only [getL, Option.some.injEq] at hx; subst hx; exact ⟨_, rfl, _, rfl, hag⟩
  | 1 => simp only [getL, Option.some.injEq] at hx; subst hx; exact ⟨_, rfl, rfl⟩
  | 2 => simp only [getL, Option.some.injEq] at hx; subst hx; exact ⟨_, rfl, rfl⟩
  | 3 => simp only [getL, Option.some.injEq] at hx; subst hx; exact ⟨_, rfl, rfl⟩
  | j + 4 => simp [getL] at hx
theorem Qgx {c : Conf} {d : Dev} {f : Fnd} (h : f ∈ QaW c d) : f.r = (Qau ((d.zones.getD f.zone.toNat default).sectors.getD f.offset.toNat ByteArray.empty)).1 ∧ (Qau ((d.zones.getD f.zone.toNat default).sectors.getD f.offset.toNat ByteArray.empty)).2 = true ∧ 1 ≤ f.r.version ∧ 0 ≤ f.zone ∧ 0 ≤ f.offset ∧ f.zone < d.zones.length ∧ f.offset < (d.zones.getD f.zone.toNat default).sectors.length ∧ QaS c f.zone = true := by
 have hz : ∀ (z : Int) (l : List ByteArray) (k : Nat), f ∈ Qa6 z l k → ∃ i, i < k ∧ f = ⟨z, i, (Qau (l.getD i ByteArray.empty)).1⟩ ∧ (Qau (l.getD i ByteArray.empty)).2 = true ∧ 1 ≤ f.r.version := by
  intro z l k
  induction k with
  | zero => intro h; cases h
  | succ k ih =>
   intro h
   rw [Qa6, List.mem_append] at h
   rcases h with h | h
   ·obtain ⟨i, i1, i2⟩ := ih h
    exact ⟨i, by omega, i2⟩
   ·unfold Qc8 at h
    split at h
    ·rename_i q
     rw [List.mem_singleton] at h
     exact ⟨k, by omega, h, q.1, by rw [h]; exact q.2⟩
    ·cases h
 have ha : ∀ k, f ∈ Qag c d k → ∃ z : Nat, z < k ∧ QaS c z = true ∧ f ∈ QcV d z := by
  intro k
  induction k with
  | zero => intro h; cases h
  | succ k ih =>
   intro h
   rw [Qag] at h
   split at h
   ·rename_i q
    rw [List.mem_append] at h
    rcases h with h | h
    ·obtain ⟨z, z1, z2⟩ := ih h
     exact ⟨z, by omega, z2⟩
    ·exact ⟨k, by omega, q, h⟩
   ·obtain ⟨z, z1, z2⟩ := ih h
    exact ⟨z, by omega, z2⟩
 obtain ⟨z, z1, z2, z3⟩ := ha _ h
 unfold QcV at z3
 split at z3
 ·rename_i q
  obtain ⟨i, i1, i2, i3, i4⟩ := hz _ _ _ z3
  subst i2
  exact ⟨rfl, i3, i4, by simp, by simp, q.2, by simpa using i1, z2⟩
 ·cases z3
theorem Qre {c : Conf} {d : Dev} {f g : Fnd} (hf : f ∈ QaW c d) (hg : g ∈ QaW c d) (h1 : f.zone = g.zone) (h2 : f.offset = g.offset) : f = g := by
 have a := (Qgx hf).1
 have b := (Qgx hg).1
 rw [h1, h2, ← b] at a
 cases f; cases g; simp_all
theorem Qlj {c : Conf} {d : Dev} {f : Fnd} (hf : f ∈ QaW c d) : (f.r.kind = 1 ∨ f.r.kind = 2) ∧ 0 ≤ f.r.block ∧ f.r.block ≤ 4294967295 ∧ f.r.version ≤ 1099511627776 ∧ 0 ≤ f.r.move ∧ f.r.move ≤ 255 := by
 obtain ⟨a, b, -⟩ := Qgx hf
 obtain ⟨b1, b2⟩ := blockR_iff.1.1 b
 rw [blockR_iff.2 b] at a
 rw [a]
 have hk : QdM (decR _) = true := b2
 unfold QdM at hk
 rw [decide_eq_true_eq] at hk
 refine ⟨hk, ?_⟩
 unfold decR at hk ⊢
 rw [if_pos b1] at hk ⊢
 unfold decE at b1
 split at b1
 ·split at b1
  ·split at b1
   ·rename_i q
    obtain ⟨-, q2, -⟩ := QaR q.1
    omega
   ·cases b1
  ·cases b1
 ·cases b1
def elig (b : Bas) (x : Int) (f : Fnd) : Prop := f.r.block = x ∧ Qah b f = true
def Qjt (l : List Fnd) : Prop := ∀ f ∈ l, ∀ g ∈ l, f.zone = g.zone → f.offset = g.offset → f = g
theorem Qdh {a b : Fnd} : Qw a b = true ↔ b.r.version < a.r.version ∨ (a.r.version = b.r.version ∧ (b.r.move < a.r.move ∨ (a.r.move = b.r.move ∧ (a.zone < b.zone ∨ (a.zone = b.zone ∧ a.offset < b.offset))))) := by
 unfold Qw
 split
 ·split
  ·split
   ·rw [decide_eq_true_eq]; omega
   ·rw [decide_eq_true_eq]; omega
  ·rw [decide_eq_true_eq]; omega
 ·rw [decide_eq_true_eq]; omega
theorem QeB {a b : Fnd} (h : Qw a b = true) : ¬ Qw b a = true := by
 rw [Qdh] at *; omega
theorem Qn8 {l : List Fnd} (hl : Qjt l) {a b : Fnd} (ha : a ∈ l) (hb : b ∈ l) (h : ¬ Qw b a = true) : b = a ∨ Qw a b = true := by
 by_cases q : Qw a b = true
 ·exact .inr q
 ·rw [Qdh] at h q
  exact .inl (hl b hb a ha (by omega) (by omega))
theorem Qmr {b : Bas} {x : Int} {f : Fnd} : ∀ (l : List Fnd) (o : Option Fnd), (∀ g ∈ l, elig b x g → g = f ∨ Qw f g = true) → elig b x f → (o = some f ∨ f ∈ l ∧ ∀ h, o = some h → h = f ∨ Qw f h = true) → l.foldl (Qcz b x) o = some f
 | [], o, _, _, h => by
  rcases h with h | h
  ·exact h
  ·cases h.1
 | g :: l, o, hd, he, h => by
  rw [List.foldl_cons]
  refine Qmr l _ (fun g' hg' => hd g' (List.mem_cons_of_mem _ hg')) he ?_
  unfold Qcz
  split
  ·rename_i q
   rcases hd g (List.mem_cons_self ..) ⟨q.1, q.2.1⟩ with rfl | r
   ·exact .inl rfl
   ·rcases h with h | h
    ·subst h
     exact absurd (q.2.2 f rfl) (QeB r)
    ·rcases List.mem_cons.1 h.1 with rfl | h1
     ·exact .inl rfl
     ·exact .inr ⟨h1, fun h e => by cases e; exact .inr r⟩
  ·rename_i q
   rcases h with h | h
   ·exact .inl h
   ·rcases List.mem_cons.1 h.1 with rfl | h1
    ·cases ho : o with
     | none => exact absurd ⟨he.1, he.2, fun g e => by rw [ho] at e; cases e⟩ q
     | some h' =>
      rcases h.2 h' ho with rfl | r
      ·exact .inl rfl
      ·exact absurd ⟨he.1, he.2, fun g e => by rw [ho] at e; cases e; exact r⟩ q
    ·exact .inr ⟨h1, h.2⟩
theorem QuW {b : Bas} {x : Int} {f : Fnd} {l : List Fnd} (hf : f ∈ l) (he : elig b x f) (h : ∀ g ∈ l, elig b x g → g = f ∨ Qw f g = true) : QO b l x = some f :=
 Qmr l none h he (.inr ⟨hf, fun _ e => by cases e⟩)
theorem Qti {b : Bas} {x : Int} {l : List Fnd} (h : ∀ g ∈ l, ¬ elig b x g) : QO b l x = none := by
 unfold QO
 have key : ∀ (l : List Fnd), (∀ g ∈ l, ¬ elig b x g) → l.foldl (Qcz b x) none = none := by
  intro l
  induction l with
  | nil => intro _; rfl
  | cons g l ih =>
   intro h
   rw [List.foldl_cons, show Qcz b x none g = none from if_neg fun q => h g (List.mem_cons_self ..) ⟨q.1, q.2.1⟩]
   exact ih fun g' hg' => h g' (List.mem_cons_of_mem _ hg')
 exact key l h
theorem Qiz {b : Bas} {x : Int} {l : List Fnd} {f : Fnd} (h : QO b l x = some f) : f ∈ l ∧ elig b x f ∧ ∀ g ∈ l, elig b x g → ¬ Qw g f = true := by
 have key : ∀ (l : List Fnd) (o : Option Fnd), l.foldl (Qcz b x) o = some f → (o = some f ∨ f ∈ l ∧ elig b x f) ∧ (∀ h, o = some h → h = f ∨ Qw f h = true) ∧ ∀ g ∈ l, elig b x g → ¬ Qw g f = true := by
  intro l
  induction l with
  | nil => intro o h; exact ⟨.inl h, fun h' e => .inl (by rw [show o = some f from h] at e; cases e; rfl), fun g hg => by cases hg⟩
  | cons g l ih =>
   intro o h
   rw [List.foldl_cons] at h
   obtain ⟨h1, h2, h3⟩ := ih _ h
   unfold Qcz at h1 h2
   split at h1
   ·rename_i q
    rw [if_pos q] at h2
    have hg := h2 g rfl
    refine ⟨.inr ?_, fun h' e => ?_, fun g' hg' he' => ?_⟩
    ·rcases h1 with h1 | h1
     ·cases h1; exact ⟨List.mem_cons_self .., q.1, q.2.1⟩
     ·exact ⟨List.mem_cons_of_mem _ h1.1, h1.2⟩
    ·have r := q.2.2 h' e
     rcases hg with rfl | hg
     ·exact .inr r
     ·rw [Qdh] at *; omega
    ·rcases List.mem_cons.1 hg' with rfl | hg'
     ·rcases hg with rfl | hg
      ·exact fun z => QeB z z
      ·exact QeB hg
     ·exact h3 g' hg' he'
   ·rename_i q
    rw [if_neg q] at h2
    refine ⟨?_, h2, fun g' hg' he' => ?_⟩
    ·rcases h1 with h1 | h1
     ·exact .inl h1
     ·exact .inr ⟨List.mem_cons_of_mem _ h1.1, h1.2⟩
    ·rcases List.mem_cons.1 hg' with rfl | hg'
     ·intro z
      refine q ⟨he'.1, he'.2, fun o' ho => ?_⟩
      rcases h2 o' ho with rfl | r
      ·exact z
      ·rw [Qdh] at *; omega
     ·exact h3 g' hg' he'
 obtain ⟨h1, -, h3⟩ := key l none h
 rcases h1 with h1 | h1
 ·cases h1
 ·exact ⟨h1.1, h1.2, h3⟩
def Qa1 (l : List Fnd) (k : Nat) (x : Int) : Bool := decide (∃ j, j < k ∧ (l.getD j default).r.block = x)
def entF (f : Fnd) : Ent := ⟨f.r.block, f.r.kind, f.r.version, f.r.move, f.zone, f.offset⟩
def Qgo (b : Bas) (f : Fnd) : Bool := decide (f.r.kind = 1 ∨ b.cut ≤ f.r.version)
def winS (b : Bas) (l : List Fnd) : Nat → List Ent
 | 0 => []
 | k + 1 => if Qa1 l k (l.getD k default).r.block = true then winS b l k else if Qgo b (l.getD k default) = true then winS b l k ++ [entF (l.getD k default)] else winS b l k
def Qf1 (l : List Fnd) : Nat → List Key
 | 0 => []
 | k + 1 => if Qa1 l k (l.getD k default).r.block = true then Qf1 l k else updK (Qf1 l k) (.c (.i .i64 (l.getD k default).r.block))
def Qef (l : List Fnd) : Nat → Key → Nat → C
 | 0 => fun _ _ => .bool false
 | k + 1 => if Qa1 l k (l.getD k default).r.block = true then Qef l k else updV (Qef l k) (.c (.i .i64 (l.getD k default).r.block)) (lget [.bool true])
theorem QqK {l : List Fnd} {k : Nat} {x : Int} : Qa1 l (k + 1) x = true ↔ Qa1 l k x = true ∨ (l.getD k default).r.block = x := by
 unfold Qa1
 rw [decide_eq_true_eq, decide_eq_true_eq]
 constructor
 ·rintro ⟨j, j1, j2⟩
  rcases Nat.lt_succ_iff_lt_or_eq.1 j1 with q | rfl
  ·exact .inl ⟨j, q, j2⟩
  ·exact .inr j2
 ·rintro (⟨j, j1, j2⟩ | h)
  ·exact ⟨j, by omega, j2⟩
  ·exact ⟨k, by omega, h⟩
theorem Qf5 (l : List Fnd) : ∀ (k : Nat) (x : Int), Qef l k (.c (.i .i64 x)) 0 = .bool (Qa1 l k x)
 | 0, x => by
  show C.bool false = .bool (Qa1 l 0 x)
  rw [show Qa1 l 0 x = false from decide_eq_false fun ⟨j, j1, _⟩ => absurd j1 (Nat.not_lt_zero _)]
 | k + 1, x => by
  rw [Qef]
  have h := QqK (l := l) (k := k) (x := x)
  split
  ·rename_i q
   rw [Qf5 l k x]
   congr 1
   rw [Bool.eq_iff_iff, h]
   exact ⟨.inl, fun z => by
    rcases z with z | z
    ·exact z
    ·rwa [z] at q⟩
  ·rename_i q
   unfold updV
   by_cases c : x = (l.getD k default).r.block
   ·rw [if_pos (by rw [c])]
    show C.bool true = _
    rw [h.2 (.inr c.symm)]
   ·rw [if_neg (fun e => c (by simpa using e)), Qf5 l k x]
    congr 1
    rw [Bool.eq_iff_iff, h]
    exact ⟨.inl, fun z => by
     rcases z with z | z
     ·exact z
     ·exact absurd z.symm c⟩
theorem Qg3 {b : Bas} {L : List Fnd} {m : Nat} : ∀ {M : Nat}, m ≤ M → (∀ i : Nat, m ≤ i → i < M → QO b L i = none) → Qal b L M = Qal b L m
 | 0, h, _ => by rw [Nat.le_zero.1 h]
 | M + 1, h, hn => by
  by_cases q : m = M + 1
  ·rw [q]
  ·rw [Qal, Qg3 (M := M) (by omega) (fun i h1 h2 => hn i h1 (by omega))]
   have : QaI b L M = [] := by unfold QaI; rw [hn M (by omega) (by omega)]
   rw [this, List.append_nil]
structure Row (b : Bas) (L S : List Fnd) : Prop where
 mem : ∀ f, f ∈ S ↔ f ∈ L ∧ Qah b f = true
 pl : Qjt L
 nn : ∀ f ∈ L, 0 ≤ f.r.block
 so : ∀ i j, i < j → j < S.length → Qb (S.getD j default) (S.getD i default) = false
theorem Row.get {b : Bas} {L S : List Fnd} (h : Row b L S) {k : Nat} (hk : k < S.length) : S.getD k default ∈ S := by
 rw [show S.getD k default = S[k] by simp [List.getD, hk]]
 exact List.getElem_mem hk
theorem Row.at {b : Bas} {L S : List Fnd} (h : Row b L S) {f : Fnd} (hf : f ∈ S) : ∃ k, k < S.length ∧ S.getD k default = f := by
 obtain ⟨k, hk, rfl⟩ := List.getElem_of_mem hf
 exact ⟨k, hk, by simp [List.getD, hk]⟩
theorem Row.mono {b : Bas} {L S : List Fnd} (h : Row b L S) {i j : Nat} (hij : i ≤ j) (hj : j < S.length) : (S.getD i default).r.block ≤ (S.getD j default).r.block := by
 by_cases q : i = j
 ·rw [q]; exact Int.le_refl _
 ·have := h.so i j (by omega) hj
  rw [Bool.eq_false_iff, ne_eq, QdY] at this
  omega
theorem Row.first {b : Bas} {L S : List Fnd} (h : Row b L S) {k : Nat} (hk : k < S.length) (hs : Qa1 S k (S.getD k default).r.block = false) : QO b L (S.getD k default).r.block = some (S.getD k default) := by
 have hm := (h.mem _).1 (h.get hk)
 refine QuW hm.1 ⟨rfl, hm.2⟩ fun g hg he => ?_
 obtain ⟨j, hj, rfl⟩ := h.at ((h.mem g).2 ⟨hg, he.2⟩)
 have hne : ¬ j < k := fun q => by
  unfold Qa1 at hs
  rw [decide_eq_false_iff_not] at hs
  exact hs ⟨j, q, he.1⟩
 by_cases q : j = k
 ·subst q; exact .inl rfl
 ·refine Qn8 h.pl hm.1 hg fun z => ?_
  have := h.so k j (by omega) hj
  rw [Bool.eq_false_iff, ne_eq, QdY] at this
  rw [Qdh] at z
  have := he.1
  omega
theorem Row.seen {b : Bas} {L S : List Fnd} (h : Row b L S) (x : Int) : Qa1 S S.length x = (QO b L x).isSome := by
 rw [Bool.eq_iff_iff]
 unfold Qa1
 rw [decide_eq_true_eq]
 constructor
 ·rintro ⟨j, hj, rfl⟩
  cases hb : QO b L (S.getD j default).r.block with
  | some f => rfl
  | none =>
   exfalso
   have hm := (h.mem _).1 (h.get hj)
   have : ∃ k, k ≤ j ∧ (S.getD k default).r.block = (S.getD j default).r.block ∧ Qa1 S k (S.getD k default).r.block = false := by
    clear hb
    induction j using Nat.strongRecOn with
    | _ j ih =>
     cases q : Qa1 S j (S.getD j default).r.block with
     | false => exact ⟨j, Nat.le_refl _, rfl, q⟩
     | true =>
      have q' := q
      unfold Qa1 at q'
      rw [decide_eq_true_eq] at q'
      obtain ⟨i, i1, i2⟩ := q'
      obtain ⟨k, k1, k2, k3⟩ := ih i i1 (by omega) ((h.mem _).1 (h.get (by omega)))
      exact ⟨k, by omega, k2.trans i2, k3⟩
   obtain ⟨k, k1, k2, k3⟩ := this
   have := h.first (by omega) k3
   rw [k2, hb] at this
   cases this
 ·intro hb
  obtain ⟨f, hf⟩ := Option.isSome_iff_exists.1 hb
  obtain ⟨f1, f2, -⟩ := Qiz hf
  obtain ⟨k, hk, rfl⟩ := h.at ((h.mem f).2 ⟨f1, f2.2⟩)
  exact ⟨k, hk, f2.1⟩
theorem Row.noneB {b : Bas} {L S : List Fnd} (h : Row b L S) {x : Int} (hx : ∀ k, k < S.length → (S.getD k default).r.block ≠ x) : QO b L x = none := by
 refine Qti fun g hg he => ?_
 obtain ⟨k, hk, rfl⟩ := h.at ((h.mem g).2 ⟨hg, he.2⟩)
 exact hx k hk he.1
theorem Row.upto {b : Bas} {L S : List Fnd} (h : Row b L S) : ∀ k, k ≤ S.length → winS b S k = Qal b L (match k with | 0 => 0 | k + 1 => (S.getD k default).r.block.toNat + 1)
 | 0, _ => rfl
 | k + 1, hk => by
  have ih := h.upto k (by omega)
  have hm := (h.mem _).1 (h.get (k := k) (by omega))
  have hnn := h.nn _ hm.1
  rw [winS]
  cases q : Qa1 S k (S.getD k default).r.block with
  | true =>
   rw [if_pos rfl, ih]
   have q' := q
   unfold Qa1 at q'
   rw [decide_eq_true_eq] at q'
   obtain ⟨i, i1, i2⟩ := q'
   match k, i1 with
   | k + 1, i1 =>
    have a1 := h.mono (i := i) (j := k) (by omega) (by omega)
    have a2 := h.mono (i := k) (j := k + 1) (by omega) (by omega)
    have : (S.getD k default).r.block = (S.getD (k + 1) default).r.block := by omega
    show Qal b L ((S.getD k default).r.block.toNat + 1) = Qal b L ((S.getD (k + 1) default).r.block.toNat + 1)
    rw [this]
  | false =>
   rw [if_neg (by simp)]
   have hb := h.first (by omega) q
   have hgap : Qal b L (S.getD k default).r.block.toNat = winS b S k := by
    rw [ih]
    refine Qg3 ?_ fun i i1 i2 => h.noneB fun j hj e => ?_
    ·match k with
     | 0 => exact Nat.zero_le _
     | k + 1 =>
      show (S.getD k default).r.block.toNat + 1 ≤ _
      have a2 := h.mono (i := k) (j := k + 1) (by omega) (by omega)
      have := h.nn _ ((h.mem _).1 (h.get (k := k) (by omega))).1
      have : (S.getD k default).r.block ≠ (S.getD (k + 1) default).r.block := fun e => by
       unfold Qa1 at q
       rw [decide_eq_false_iff_not] at q
       exact q ⟨k, by omega, e⟩
      omega
    ·have hjk : j < k := by
      by_cases z : j < k
      ·exact z
      ·have := h.mono (i := k) (j := j) (by omega) hj
       omega
     match k, hjk with
     | k + 1, hjk =>
      have i1 : (S.getD k default).r.block.toNat + 1 ≤ i := i1
      have := h.nn _ ((h.mem _).1 (h.get (k := k) (by omega))).1
      have := h.mono (i := j) (j := k) (by omega) (by omega)
      omega
   show _ = Qal b L ((S.getD k default).r.block.toNat + 1)
   rw [Qal, hgap]
   have e0 : (((S.getD k default).r.block.toNat : Nat) : Int) = (S.getD k default).r.block := by omega
   have hat : QaI b L (S.getD k default).r.block.toNat = if Qgo b (S.getD k default) = true then [entF (S.getD k default)] else [] := by
    unfold QaI
    rw [e0, hb]
    unfold Qgo entF
    by_cases c : (S.getD k default).r.kind = 1 ∨ b.cut ≤ (S.getD k default).r.version
    ·rw [decide_eq_true c]
     exact if_pos c
    ·rw [decide_eq_false c]
     exact if_neg c
   rw [hat]
   split
   ·rfl
   ·rw [List.append_nil]
theorem Row.all {b : Bas} {L S : List Fnd} (h : Row b L S) {n : Nat} (hn : ∀ f ∈ L, f.r.block < n) : winS b S S.length = Qal b L n := by
 rw [h.upto S.length (Nat.le_refl _)]
 symm
 refine Qg3 ?_ fun i i1 i2 => h.noneB fun j hj e => ?_
 ·split
  ·exact Nat.zero_le _
  ·rename_i k q
   have := hn _ ((h.mem _).1 (h.get (k := k) (by omega))).1
   have := h.nn _ ((h.mem _).1 (h.get (k := k) (by omega))).1
   omega
 ·split at i1
  ·rename_i q; omega
  ·rename_i k q
   have := h.mono (i := j) (j := k) (by omega) (by omega)
   have := h.nn _ ((h.mem _).1 (h.get (k := j) hj)).1
   omega
end Go.Proofs
end
