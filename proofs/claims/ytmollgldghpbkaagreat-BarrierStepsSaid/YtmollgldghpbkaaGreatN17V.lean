/- Contracts, lemmas; no condition. -/
import Derived.Test.YtmollgldghpbkaaGreatS22V
import Derived.Test.YtmollgldghpbkaaGreatK5V
import Derived.Test.YtmollgldghpbkaaGreatGGV
import Derived.Test.YtmollgldghpbkaaGreatNEV
set_option linter.all false
open Go Go.Am
namespace Go.Proofs
set_option maxRecDepth 20000
def QfS (l : List Int) (at_ n : Int) : List Int := if l.length = 0 then [] else l.set (modI at_ l.length).toNat (IntKind.i64.wrap (l.getD (modI at_ l.length).toNat default + n))
theorem Qgv (l : List Int) (at_ n : Int) (hl : l.length ≤ 1000000) : PS 44 [.c (Qi l), .c (.int .i64 at_), .c (.int .i64 n)] (.c (Qi (QfS l at_ n))) := by
 refine PSpec.rm ?_
 refine ov0 hΓ Tryz.func44 25 0 [.tmp 6] Tryz.ntmps44 Tryz.results44 ?_
 by_cases h0 : l.length = 0
 ·refine Br.no (decide_eq_false om) (Go0 ?_)
  refine RM.allC (Fw.ints rfl rfl (by unfold QfS; rw [if_pos h0]; simp [h0]) ?_)
  intro a ha
  omega
 ·have hm := Qq5 (x := at_) (n := l.length) om om
  have e0 : ((0 + l.length : Nat) : Int) = l.length := by omega
  refine Br.yes (decide_eq_true om) (Go0 ?_)
  refine CallN.pureA QeW (QeY at_ (0 + l.length : Nat) ) ?_
  conv=>whnf
  rw [e0]
  refine Go0 ?_
  refine Frc.mk (.c (.int .i64 (l.getD (modI at_ l.length).toNat default))) rfl (Go0 ?_)
  refine RM.allC (Fw.ints rfl rfl (by unfold QfS; rw [if_neg h0]; simp) ?_)
  intro a _ b hb
  refine (QiQ om a b hb).trans ?_
  unfold QfS
  rw [if_neg h0]
theorem Qgy : HB 44 := hB Tryz.func44
theorem QmL {l : List Int} {a n : Int} : (QfS l a n).length = l.length := by
 unfold QfS
 split
 ·rename_i h; rw [h]; rfl
 ·exact List.length_set
theorem Qiq {l : List Int} {a n : Int} (h : l.length ≤ 1000000) : (QfS l a n).length ≤ 1000000 := by rw [QmL]; exact h
theorem Ql3 {l : List Int} {n : Int} (h : l.length ≤ 1000000) : (QaF l n).length ≤ 1000000 := Nat.le_trans (List.length_filter_le _ _) h
theorem QnT {l : List Wrk} {q : Nat} {z : Int} (hq : q < l.length) (i j : Nat) (hj : j < 12) : updG (wrkG l) q 9 [.int .i64 z] i j = wrkG (l.set q { l.getD q default with ent := { (l.getD q default).ent with zone := z } }) i j := by
 refine QcC hq (es := 12) (fun j hj => ?_) i j hj
 match j, hj with
 | 0, _ => rfl
 | 1, _ => rfl
 | 2, _ => rfl
 | 3, _ => rfl
 | 4, _ => rfl
 | 5, _ => rfl
 | 6, _ => rfl
 | 7, _ => rfl
 | 8, _ => rfl
 | 9, _ => rfl
 | 10, _ => rfl
 | 11, _ => rfl
theorem Qow {l : List Wrk} {q : Nat} {v : Int} (hq : q < l.length) (i j : Nat) (hj : j < 12) : updG (wrkG l) q 7 [.int .i64 v] i j = wrkG (l.set q { l.getD q default with ent := { (l.getD q default).ent with version := v } }) i j := by
 refine QcC hq (es := 12) (fun j hj => ?_) i j hj
 match j, hj with
 | 0, _ => rfl
 | 1, _ => rfl
 | 2, _ => rfl
 | 3, _ => rfl
 | 4, _ => rfl
 | 5, _ => rfl
 | 6, _ => rfl
 | 7, _ => rfl
 | 8, _ => rfl
 | 9, _ => rfl
 | 10, _ => rfl
 | 11, _ => rfl
theorem QoS {l : List Wrk} {q : Nat} {z v : Int} (hq : q < l.length) (i j : Nat) (hj : j < 12) : updG (updG (wrkG l) q 9 [.int .i64 z]) q 7 [.int .i64 v] i j = wrkG (l.set q { l.getD q default with ent := { (l.getD q default).ent with zone := z, version := v } }) i j := by
 rw [QjC (QnT hq i j hj), Qow (by simpa using hq) i j hj, Qnz hq, List.set_set]
theorem FwL.wk {H : List O} (s : St) {b e n : Nat} {x : Bool} {g : Nat → Nat → C} (hb : getL H b = some (.arr e 12 n g)) (hn : n = s.works.length) (hg : ∀ i, i < n → ∀ j, j < 12 → g i j = wrkG s.works i j) : FwL H (s.cellsW (rngC s.rings) (.sl b 12 n n x) (evC s.evs)) s.cells := by
 subst hn
 have rb : Fw H (.sl b 12 s.works.length s.works.length x) (wrkC s.works) := Fw.sl hb rfl (fun i hi j hj => by rw [hg i hi j hj]; exact Fw.same (Qj _ _)) (fun e => by cases e)
 unfold St.cells St.cellsW St.cellsX St.cellsZ
 repeat' (first | exact FwL.nil | refine FwL.cons ?_ ?_ | exact rb | exact Fw.same rfl)
structure OddOk (s o : St) : Prop where
 small : o.small
 map : o.map = s.map
 cfg : o.cfg = s.cfg
 works : o.works.length = s.works.length
 evs : o.evs = s.evs
theorem QfQ {s t : St} {x : S} {H : List O} (hq : OddOk s t) (h : RM 0 x H (.a t.cells) []) : ∃ s' H', RM 0 x H s' H' ∧ ∃ i : St, OddOk s i ∧ s' = .a i.cells ∧ H' = [] := QeI hq h
set_option maxHeartbeats 8000000 in
theorem Ql6 (s : St) (h : Gz s) (what at_ by_ : Int) : CS 11 [.a s.cells, .c (.int .i64 what), .c (.int .i64 at_), .c (.int .i64 by_)] [] fun x H => ∃ o : St, OddOk s o ∧ x = .a o.cells ∧ H = [] := by
 have hs := h.small
 have hr4 := h.rings4
 refine CSpec.rm ?_
 refine ov0 hΓ Tryz.func11 294 0 [.cell 8 58] Tryz.ntmps11 Tryz.results11 ?_
 refine CallN.pureA QeW (QeY what 20 ) (Go0 ?_)
 generalize modI what 20 = k at *
 refine Br.of (fun c0=>?_) (fun c0=>?_)<;>(try simp only [Int.toNat_natCast] at c0)<;>(conv=>whnf)
 ·refine Go0 ?_
  refine CallN.pureA QnL (QnP s.dev hs.dev at_ by_ at_ ) (Go0 ?_)
  exact QfQ (t := { s with dev := oddD s.dev at_ by_ at_ }) ⟨{ hs with dev := (Qox (check_ok.1 h.val.parts.dev) _ _ _).1 }, rfl, rfl, rfl, rfl⟩ RM.i0
 refine Go0 ?_
 refine Br.of (fun c1=>?_) (fun c1=>?_)<;>(try simp only [Int.toNat_natCast] at c1)<;>(conv=>whnf)
 ·refine Go0 ?_
  refine Dr.mk hΓ hMix (by kernel_rfl) (Go0 ?_)
  refine CallP.auto QeW (QeY by_ 5 ) (Go0 ?_)
  refine CallP.auto Qgy (Qgv s.live at_ (IntKind.i64.wrap (modI by_ 5 - 2)) hs.live ) (Go0 ?_)
  exact QfQ (t := { s with live := QfS s.live at_ (IntKind.i64.wrap (modI by_ 5 - 2)) }) ⟨{ hs with live := Qiq hs.live }, rfl, rfl, rfl, rfl⟩ RM.i0
 refine Go0 ?_
 refine Br.of (fun c2=>?_) (fun c2=>?_)<;>(try simp only [Int.toNat_natCast] at c2)<;>(conv=>whnf)
 ·refine Go0 ?_
  refine Dr.mk hΓ hMix (by kernel_rfl) (Go0 ?_)
  refine CallP.auto QeW (QeY by_ 5 ) (Go0 ?_)
  refine CallP.auto Qgy (Qgv s.pend at_ (IntKind.i64.wrap (modI by_ 5 - 2)) hs.pend ) (Go0 ?_)
  exact QfQ (t := { s with pend := QfS s.pend at_ (IntKind.i64.wrap (modI by_ 5 - 2)) }) ⟨{ hs with pend := Qiq hs.pend }, rfl, rfl, rfl, rfl⟩ RM.i0
 refine Go0 ?_
 refine Br.of (fun c3=>?_) (fun c3=>?_)<;>(try simp only [Int.toNat_natCast] at c3)<;>(conv=>whnf)
 ·refine Go0 ?_
  refine Dr.mk hΓ hMix (by kernel_rfl) (Go0 ?_)
  refine CallP.auto QeW (QeY by_ 7 ) (Go0 ?_)
  refine CallP.auto Qgy (Qgv s.owner at_ (IntKind.i64.wrap (modI by_ 7 - 2)) hs.owner ) (Go0 ?_)
  exact QfQ (t := { s with owner := QfS s.owner at_ (IntKind.i64.wrap (modI by_ 7 - 2)) }) ⟨{ hs with owner := Qiq hs.owner }, rfl, rfl, rfl, rfl⟩ RM.i0
 refine Go0 ?_
 refine Br.of (fun c4=>?_) (fun c4=>?_)<;>(try simp only [Int.toNat_natCast] at c4)<;>(conv=>whnf)
 ·refine Go0 ?_
  refine Dr.mk hΓ hMix (by kernel_rfl) (Go0 ?_)
  refine CallP.auto QeW (QeY by_ 4 ) (Go0 ?_)
  refine CallP.auto Qgy (Qgv s.pins at_ (IntKind.i64.wrap (modI by_ 4 - 1)) hs.pins ) (Go0 ?_)
  exact QfQ (t := { s with pins := QfS s.pins at_ (IntKind.i64.wrap (modI by_ 4 - 1)) }) ⟨{ hs with pins := Qiq hs.pins }, rfl, rfl, rfl, rfl⟩ RM.i0
 refine Go0 ?_
 refine Br.of (fun c5=>?_) (fun c5=>?_)<;>(try simp only [Int.toNat_natCast] at c5)<;>(conv=>whnf)
 ·refine Go0 ?_
  refine Dr.mk hΓ hMix (by kernel_rfl) (Go0 ?_)
  refine CallP.auto QeW (QeY by_ 5 ) (Go0 ?_)
  exact QfQ (t := { s with glob := IntKind.i64.wrap (IntKind.i64.wrap (s.glob + modI by_ 5) - 1) }) ⟨{ hs with }, rfl, rfl, rfl, rfl⟩ RM.i0
 refine Go0 ?_
 refine Br.of (fun c6=>?_) (fun c6=>?_)<;>(try simp only [Int.toNat_natCast] at c6)<;>(conv=>whnf)
 ·refine Go0 ?_
  refine CallN.pureA QeW (QeY by_ _ ) (Go0 ?_)
  exact QfQ (t := { s with host := IntKind.i64.wrap (modI by_ (IntKind.i64.wrap (s.cfg.zones + 2)) - 1) }) ⟨{ hs with }, rfl, rfl, rfl, rfl⟩ RM.i0
 refine Go0 ?_
 refine Br.of (fun c7=>?_) (fun c7=>?_)<;>(try simp only [Int.toNat_natCast] at c7)<;>(conv=>whnf)
 ·refine Go0 ?_
  refine CallN.pureA QeW (QeY by_ _ ) (Go0 ?_)
  exact QfQ (t := { s with lane := IntKind.i64.wrap (modI by_ (IntKind.i64.wrap (s.cfg.zones + 2)) - 1) }) ⟨{ hs with }, rfl, rfl, rfl, rfl⟩ RM.i0
 refine Go0 ?_
 refine Br.of (fun c8=>?_) (fun c8=>?_)<;>(try simp only [Int.toNat_natCast] at c8)<;>(conv=>whnf)
 ·refine Go0 ?_
  refine Dr.mk hΓ hMix (by kernel_rfl) (Go0 ?_)
  refine CallP.auto QeW (QeY by_ (IntKind.i64.wrap (s.cfg.zones + 1)) ) (Go0 ?_)
  refine CallP.auto QcH (QcB s.free (modI by_ (IntKind.i64.wrap (s.cfg.zones + 1))) hs.free ) (Go0 ?_)
  exact QfQ (t := { s with free := QaF s.free (modI by_ (IntKind.i64.wrap (s.cfg.zones + 1))) }) ⟨{ hs with free := Ql3 hs.free }, rfl, rfl, rfl, rfl⟩ RM.i0
 refine Go0 ?_
 refine Br.of (fun c9=>?_) (fun c9=>?_)<;>(try simp only [Int.toNat_natCast] at c9)<;>(conv=>whnf)
 ·refine Go0 ?_
  refine Dr.mk hΓ hMix (by kernel_rfl) (Go0 ?_)
  refine CallP.auto QeW (QeY by_ 5 ) (Go0 ?_)
  have hm := Qq5 (x := by_) (n := 5) om om
  generalize modI by_ 5 = m at *
  have : m = 0 ∨ m = 1 ∨ m = 2 ∨ m = 3 ∨ m = 4 := by omega
  rcases this with rfl | rfl | rfl | rfl | rfl
  ·refine Go0 ?_
   exact QfQ (t := { s with next := 0 }) ⟨{ hs with }, rfl, rfl, rfl, rfl⟩ RM.i0
  ·refine Go0 ?_
   exact QfQ (t := { s with next := 1 }) ⟨{ hs with }, rfl, rfl, rfl, rfl⟩ RM.i0
  ·refine Go0 ?_
   exact QfQ (t := { s with next := 1099511627776 }) ⟨{ hs with }, rfl, rfl, rfl, rfl⟩ RM.i0
  ·refine Go0 ?_
   exact QfQ (t := { s with next := 1099511627775 }) ⟨{ hs with }, rfl, rfl, rfl, rfl⟩ RM.i0
  ·refine Go0 ?_
   exact QfQ (t := { s with next := (IntKind.i64.wrap (s.next + 1)) }) ⟨{ hs with }, rfl, rfl, rfl, rfl⟩ RM.i0
 refine Go0 ?_
 refine Br.of (fun c10=>?_) (fun c10=>?_)<;>(try simp only [Int.toNat_natCast] at c10)<;>(conv=>whnf)
 ·refine Go0 ?_
  have hm := Qq5 (x := at_) (n := ((0 + s.works.length : Nat) : Int)) om (by have := hs.works; omega)
  refine Dr.mk hΓ hMix (by kernel_rfl) (Go0 ?_)
  refine CallP.auto QeW (QeY at_ (0 + s.works.length : Nat) ) (Go0 ?_)
  refine CallP.auto QeW (QeY by_ 14 ) (Go0 ?_)
  refine QfQ (t := s.setWork (modI at_ (0 + s.works.length : Nat)).toNat { s.works.getD (modI at_ (0 + s.works.length : Nat)).toNat default with state := IntKind.i64.wrap (modI by_ 14 - 1) }) ⟨{ hs with works := by show (s.works.set _ _).length ≤ _; rw [List.length_set]; exact hs.works }, rfl, rfl, List.length_set, rfl⟩ ?_
  refine RM.allA (FwL.wk (s.setWork _ _) (b := 2) rfl ?_ ?_)
  ·show _ = (s.works.set _ _).length
   rw [List.length_set]; omega
  ·exact fun i _ j hj => QsO om i j hj
 refine Go0 ?_
 refine Br.of (fun c11=>?_) (fun c11=>?_)<;>(try simp only [Int.toNat_natCast] at c11)<;>(conv=>whnf)
 ·refine Go0 ?_
  refine CallN.pureA QeW (QeY by_ 11 ) (Go0 ?_)
  exact QfQ (t := { s with cln := { s.cln with state := IntKind.i64.wrap (modI by_ 11 - 1) } }) ⟨{ hs with }, rfl, rfl, rfl, rfl⟩ RM.i0
 refine Go0 ?_
 refine Br.of (fun c12=>?_) (fun c12=>?_)<;>(try simp only [Int.toNat_natCast] at c12)<;>(conv=>whnf)
 ·refine Go0 ?_
  refine CallN.pureA QeW (QeY at_ (IntKind.i64.wrap (s.cfg.zones + 2)) ) (Go0 ?_)
  refine CallN.pureA QeW (QeY by_ 9 ) (Go0 ?_)
  exact QfQ (t := { s with cln := { s.cln with victim := IntKind.i64.wrap (modI at_ (IntKind.i64.wrap (s.cfg.zones + 2)) - 1), offset := IntKind.i64.wrap (modI by_ 9 - 1) } }) ⟨{ hs with }, rfl, rfl, rfl, rfl⟩ RM.i0
 refine Go0 ?_
 refine Br.of (fun c13=>?_) (fun c13=>?_)<;>(try simp only [Int.toNat_natCast] at c13)<;>(conv=>whnf)
 ·refine Go0 ?_
  refine CallN.pureA QeW (QeY by_ 9 ) (Go0 ?_)
  exact QfQ (t := { s with sav := { s.sav with state := IntKind.i64.wrap (modI by_ 9 - 1) } }) ⟨{ hs with }, rfl, rfl, rfl, rfl⟩ RM.i0
 refine Go0 ?_
 refine Br.of (fun c14=>?_) (fun c14=>?_)<;>(try simp only [Int.toNat_natCast] at c14)<;>(conv=>whnf)
 ·refine Go0 ?_
  refine CallN.pureA QeW (QeY by_ 9 ) (Go0 ?_)
  refine CallN.pureA QeW (QeY at_ 4 ) (Go0 ?_)
  exact QfQ (t := { s with sav := { s.sav with done := IntKind.i64.wrap (modI by_ 9 - 1), slot := IntKind.i64.wrap (modI at_ 4 - 1) } }) ⟨{ hs with }, rfl, rfl, rfl, rfl⟩ RM.i0
 refine Go0 ?_
 refine Br.of (fun c15=>?_) (fun c15=>?_)<;>(try simp only [Int.toNat_natCast] at c15)<;>(conv=>whnf)
 ·refine Go0 ?_
  have hm := Qq5 (x := at_) (n := ((0 + s.works.length : Nat) : Int)) om (by have := hs.works; omega)
  refine Dr.mk hΓ hMix (by kernel_rfl) (Go0 ?_)
  refine CallP.auto QeW (QeY at_ (0 + s.works.length : Nat) ) (Go0 ?_)
  refine CallN.pureA QeW (QeY by_ (IntKind.i64.wrap (s.cfg.zones + 2)) ) (Go0 ?_)
  refine CallN.pureA QeW (QeY by_ 9 ) (Go0 ?_)
  refine QfQ (t := s.setWork (modI at_ (0 + s.works.length : Nat)).toNat { s.works.getD (modI at_ (0 + s.works.length : Nat)).toNat default with ent := { (s.works.getD (modI at_ (0 + s.works.length : Nat)).toNat default).ent with zone := IntKind.i64.wrap (modI by_ (IntKind.i64.wrap (s.cfg.zones + 2)) - 1), version := modI by_ 9 } }) ⟨{ hs with works := by show (s.works.set _ _).length ≤ _; rw [List.length_set]; exact hs.works }, rfl, rfl, List.length_set, rfl⟩ ?_
  refine RM.allA (FwL.wk (s.setWork _ _) (b := 2) rfl ?_ ?_)
  ·show _ = (s.works.set _ _).length
   rw [List.length_set]; omega
  ·exact fun i _ j hj => QoS om i j hj
 refine Go0 ?_
 refine Br.of (fun c16=>?_) (fun c16=>?_)<;>(try simp only [Int.toNat_natCast] at c16)<;>(conv=>whnf)
 ·refine Go0 ?_
  refine CallN.pureA QeW (QeY by_ (IntKind.i64.wrap (s.cfg.zones + 2)) ) (Go0 ?_)
  refine CallN.pureA QeW (QeY at_ 9 ) (Go0 ?_)
  exact QfQ (t := { s with cln := { s.cln with pzone := IntKind.i64.wrap (modI by_ (IntKind.i64.wrap (s.cfg.zones + 2)) - 1), ent := { s.cln.ent with block := IntKind.i64.wrap (modI at_ 9 - 1) } } }) ⟨{ hs with }, rfl, rfl, rfl, rfl⟩ RM.i0
 refine Go0 ?_
 refine Br.of (fun c17=>?_) (fun c17=>?_)<;>(try simp only [Int.toNat_natCast] at c17)<;>(conv=>whnf)
 ·refine Go0 ?_
  refine Dr.mk hΓ hMix (by kernel_rfl) (Go0 ?_)
  refine CallP.auto QeW (QeY by_ 4 ) (Go0 ?_)
  have hm := Qq5 (x := by_) (n := 4) om om
  generalize modI by_ 4 = m at *
  have : m = 0 ∨ m = 1 ∨ m = 2 ∨ m = 3 := by omega
  rcases this with rfl | rfl | rfl | rfl
  ·refine Go0 ?_
   exact QfQ (t := { s with serial := 0 }) ⟨{ hs with }, rfl, rfl, rfl, rfl⟩ RM.i0
  ·refine Go0 ?_
   exact QfQ (t := { s with serial := 1099511627776 }) ⟨{ hs with }, rfl, rfl, rfl, rfl⟩ RM.i0
  ·refine Go0 ?_
   exact QfQ (t := { s with serial := 1099511627775 }) ⟨{ hs with }, rfl, rfl, rfl, rfl⟩ RM.i0
  ·refine Go0 ?_
   exact QfQ (t := { s with serial := (IntKind.i64.wrap (s.serial + 1)) }) ⟨{ hs with }, rfl, rfl, rfl, rfl⟩ RM.i0
 refine Go0 ?_
 refine Br.of (fun c18=>?_) (fun c18=>?_)<;>(try simp only [Int.toNat_natCast] at c18)<;>(conv=>whnf)
 ·refine Go0 ?_
  refine Dr.mkE hΓ hMix [] [(6, 8)] (by kernel_rfl) (Go0 ?_)
  refine CallP.auto QeW (QeY by_ 2 ) (Go0 ?_)
  exact QfQ (t := { s with want := !s.want, closed := modI by_ 2 == 0 }) ⟨{ hs with }, rfl, rfl, rfl, rfl⟩ RM.i0
 refine Go0 ?_
 refine CallN.pureA QeW (QeY by_ 4 ) (Go0 ?_)
 refine CallN.pureA QeW (QeY at_ 9 ) (Go0 ?_)
 exact QfQ (t := { s with slot := IntKind.i64.wrap (modI by_ 4 - 1), seq := modI at_ 9 }) ⟨{ hs with }, rfl, rfl, rfl, rfl⟩ RM.i0
theorem Ql9 : HB 11 := hB Tryz.func11
end Go.Proofs
