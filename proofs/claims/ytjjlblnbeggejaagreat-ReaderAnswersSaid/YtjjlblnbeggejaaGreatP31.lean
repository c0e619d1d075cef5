/- Contracts, lemmas; no condition. -/
import Derived.Test.YtjjlblnbeggejaaGreatP29
import Derived.Test.YtjjlblnbeggejaaGreatP30
import Derived.Test.YtjjlblnbeggejaaGreatA52
import Derived.Test.YtjjlblnbeggejaaGreatP10
import Derived.Test.YtjjlblnbeggejaaGreatP28
import Derived.Test.YtjjlblnbeggejaaGreatP21
import Derived.Test.YtjjlblnbeggejaaGreatP16
import Derived.Test.YtjjlblnbeggejaaGreatP25
import Derived.Test.YtjjlblnbeggejaaGreatP26
set_option linter.all false
section
open Go Go.Am
namespace Go.Proofs
set_option maxRecDepth 20000
variable {n : Int} {i k p : Nat} {a c : ByteArray} {r : Rec}
theorem QtL (s : St) (hs : s.small) : CS 63 [.a s.cells] [] fun r H => r = .a (s.cellsK 0) ∧ H = [s.wobj] := by
 refine CSpec.rm ((QpN s hs).mono fun x H h => ?_)
 obtain ⟨rfl, rfl⟩ := h
 have e1 : RM 0 (.a (s.own 0 1 2)) s.objs (.a (s.cellsW (rngC s.rings) (.sl 1 12 s.works.length s.works.length false) (.sl 2 8 s.evs.length s.evs.length false))) [.dead, .arr 94 12 s.works.length (wrkG s.works), .arr 100 8 s.evs.length (evG s.evs)] :=
  RM.fz 0 rfl (Qxx _) (fun i _ j _ => Qau _ _) (QvG (by (first|refine wb1 ?_|refine wb2 ?_ ?_|refine wb3 ?_ ?_ ?_|refine wb4 ?_ ?_ ?_ ?_) <;> first | exact fun i _ j _ => WC.fzI (QaW _ _) | exact fun i _ j _ => WC.fzI (Qd5 _ _)) wb0 (Qxx _))
 have e2 : RM 0 (.a (s.cellsW (rngC s.rings) (.sl 1 12 s.works.length s.works.length false) (.sl 2 8 s.evs.length s.evs.length false))) [.dead, .arr 94 12 s.works.length (wrkG s.works), .arr 100 8 s.evs.length (evG s.evs)] (.a (s.cellsK 1)) [.dead, s.wobj, .dead] :=
  RM.fz 2 rfl (Qxx _) (fun i _ j _ => Qd5 _ _) (QvG (by (first|refine wb1 ?_|refine wb2 ?_ ?_|refine wb3 ?_ ?_ ?_|refine wb4 ?_ ?_ ?_ ?_) <;> exact fun i _ j _ => WC.fzI (QaW _ _)) wb0 (Qxx _))
 refine ⟨_, _, RM.trans e1 (RM.trans e2 (Qwe [1] (by decide) ?_ ?_)), rfl, rfl⟩ <;> (first|exact wb0|refine wb1 ?_|refine wb2 ?_ ?_|refine wb3 ?_ ?_ ?_|refine wb4 ?_ ?_ ?_ ?_)
theorem QwJ {H : List O} (s : St) {b e n : Nat} {x : Bool} {g : Nat → Nat → C} (hb : getL H b = some (.arr e 12 n g)) (hn : n = s.works.length) (hg : ∀ i, i < n → ∀ j, j < 12 → g i j = wrkG s.works i j) : FwL H (s.cellsW (rngC s.rings) (.sl b 12 n n x) (evC s.evs)) s.cells := by
 subst hn
 have rb : Fw H (.sl b 12 s.works.length s.works.length x) (wrkC s.works) := Fw.sl hb rfl (fun i hi j hj => by rw [hg i hi j hj]; exact Fw.same (QaW _ _)) (fun e => by cases e)
 unfold St.cells St.cellsW St.cellsX St.cellsZ
 repeat' (first | exact FwL.nil | refine FwL.cons ?_ ?_ | exact rb | exact Fw.same rfl)
theorem Qt6 : HB 63 := hB Tryz.func63
def Qcu (s : St) (q : Int) : St × Bool :=
 if (Qfd s q).state = 1 then (pinS s q, (pinM s.glob s.pins s.rets q).2)
 else if (Qfd s q).state = 2 then (QaG s q, true)
 else if (Qfd s q).state = 3 then (QbS s q, true)
 else if (Qfd s q).state = 4 then QcC s q
 else (s, false)
def Qk (s : St) (q : Int) : St × Int := if inQ s q = true ∧ (Qcu s q).2 = true then ((Qcu s q).1, 0) else (s, 6)
set_option maxHeartbeats 8000000 in
theorem Qbp (s : St) (hs : s.small) (l : List Ent) (hall : Qx s.map = true → AllS s.map l) (q : Int) : PS 20 [.a s.cells, .c (.int .i64 q)] (.t [.inr (Qk s q).1.cells, .inl (.int .i64 (Qk s q).2)]) := by
 refine PSpec.rm ?_
 refine QwU hΓ Tryz.func20 65 0 [.cell 4 58, .tmp 5] Tryz.ntmps20 ?_
 refine AWn.seq hΓ ?_
 ((conv=>whnf);(repeat' ((first|refine Nd ?_|refine Hv fun _h=>?_);conv=>whnf)))
 refine AWn.seq hΓ ?_
 conv=>whnf
 refine QuU Qba (Qbc s hs ) ?_
 ((conv=>whnf);(repeat' ((first|refine Nd ?_|refine Hv fun _h=>?_);conv=>whnf)))
 refine AWn.seq hΓ ?_
 ((conv=>whnf);(repeat' ((first|refine Nd ?_|refine Hv fun _h=>?_);conv=>whnf)))
 refine QuU QjD (QiG s hs l hall ) ?_
 ((conv=>whnf);(repeat' ((first|refine Nd ?_|refine Hv fun _h=>?_);conv=>whnf)))
 by_cases hQ : inQ s q = true
 ·obtain ⟨hv, h0, h1⟩ := inQ_iff.1 hQ
  have h1' : q.toNat < s.works.length := by omega
  refine Br.no (by
   rw [hv, QxE (show ¬ q < 0 by omega), QxE (show ¬ q ≥ (s.works.length : Int) by omega)]
   rfl) ?_
  ((conv=>whnf);(repeat' ((first|refine Nd ?_|refine Hv fun _h=>?_);conv=>whnf)))
  refine AWn.seq hΓ ?_
  ((conv=>whnf);(repeat' ((first|refine Nd ?_|refine Hv fun _h=>?_);conv=>whnf)))
  refine CallN.autoI [] Qt6 (QtL s hs) plh ?_; conv=>whnf
  ((conv=>whnf);(repeat' ((first|refine Nd ?_|refine Hv fun _h=>?_);conv=>whnf)))
  refine AWn.mapM (tj := 7) rfl rfl rfl rfl rfl rfl fun b p => ?_
  refine RwM.mv rfl rfl rfl rfl rfl ?_
  refine QwI rfl rfl rfl rfl rfl ?_
  refine QwA hΓ rfl rfl rfl rfl rfl rfl rfl (by simp) ?_
  refine RwM.mv rfl rfl rfl rfl rfl ?_
  refine QwI rfl rfl rfl rfl rfl ?_
  refine QwA hΓ rfl rfl rfl rfl rfl rfl rfl (by simp) ?_
  refine RwM.mv rfl rfl rfl rfl rfl ?_
  refine QwI rfl rfl rfl rfl rfl ?_
  refine QwA hΓ rfl rfl rfl rfl rfl rfl rfl (by simp) ?_
  refine RwM.mv rfl rfl rfl rfl rfl ?_
  refine QwI rfl rfl rfl rfl rfl ?_
  refine QwA hΓ rfl rfl rfl rfl rfl rfl rfl (by simp) ?_
  refine RwM.mv rfl rfl rfl rfl rfl ?_
  refine Qwk rfl rfl rfl rfl rfl ?_
  refine RwM.fin ?_
  refine AWm.rg ?_
  refine RwM.mv rfl rfl rfl rfl rfl ?_
  refine RwM.vcN hΓ 5 rfl ?_
  ((conv=>whnf);(repeat' ((first|refine Nd ?_|refine Hv fun _h=>?_);conv=>whnf)))
  refine CallN.autoI [4, 3] Qc4 (QcZ s q h0 h1) plh ?_; conv=>whnf
  ((conv=>whnf);(repeat' ((first|refine Nd ?_|refine Hv fun _h=>?_);conv=>whnf)))
  refine Frc.mk (.c (.int .i64 (s.works.getD q.toNat default).state)) rfl ?_
  conv=>whnf
  by_cases c1 : (s.works.getD q.toNat default).state = 1
  ·have hm : Qcu s q = (pinS s q, (pinM s.glob s.pins s.rets q).2) := Qxt c1
   refine RwM.look hΓ (n := 1) (v := .func (.func 73) #[p] #[]) rfl rfl rfl rfl rfl rfl rfl (QxK (fun z => S.c (.int .i64 z)) c1) (by simp) (by simp) (by simp) ?_
   refine RwM.mv rfl rfl rfl rfl rfl ?_
   refine RwM.ext rfl rfl rfl rfl rfl rfl ?_
   refine Qwn rfl rfl rfl rfl rfl rfl rfl ?_
   refine Qwk rfl rfl rfl rfl rfl ?_
   refine RwM.vcN hΓ 1 rfl ?_
   conv=>whnf
   refine RwM.fin ?_
   refine AWm.assoc (AWm.rg ?_)
   refine RwM.vcN hΓ 3 rfl ?_
   conv=>whnf
   refine QwB rfl rfl rfl rfl rfl rfl rfl rfl rfl ?_
   refine RwM.call (tj := 7) rfl rfl rfl rfl rfl rfl rfl rfl rfl ?_
   refine CallN.autoI [4, 3] QvL (QvA s hs q h0 h1) plh ?_; conv=>whnf
   refine RwN.vc hΓ ?_
   ((conv=>whnf);(repeat' ((first|refine Nd ?_|refine Hv fun _h=>?_);conv=>whnf)))
   refine QvX hΓ ?_
   conv=>whnf
   by_cases cr : (pinM s.glob s.pins s.rets q).2 = true
   ·refine Br.no (by rw [cr]; rfl) ?_
    ((conv=>whnf);(repeat' ((first|refine Nd ?_|refine Hv fun _h=>?_);conv=>whnf)))
    refine QvX hΓ ?_
    ((conv=>whnf);(repeat' ((first|refine Nd ?_|refine Hv fun _h=>?_);conv=>whnf)))
    rw [show Qk s q = (pinS s q, 0) from (Qxt ⟨hQ, by rw [hm]; exact cr⟩).trans (by rw [hm])]
    exact QvC (FwT.consL (QwJ (pinS s q) (b := 3) rfl rfl (fun _ _ _ _ => rfl)) (FwT.consC (Fw.same rfl) FwT.nil))
   ·refine Br.yes (by rw [Qq cr]; rfl) ?_
    ((conv=>whnf);(repeat' ((first|refine Nd ?_|refine Hv fun _h=>?_);conv=>whnf)))
    rw [show Qk s q = (s, 6) from Qxu fun z => cr (by have := z.2; rw [hm] at this; exact this)]
    exact QuV
  by_cases c2 : (s.works.getD q.toNat default).state = 2
  ·have hm : Qcu s q = (QaG s q, true) := (Qxu c1).trans (Qxt c2)
   refine RwM.look hΓ (n := 2) (v := .func (.func 74) #[p] #[]) rfl rfl rfl rfl rfl rfl rfl (QxK (fun z => S.c (.int .i64 z)) c2) (by simp) (by simp) (by simp) ?_
   refine RwM.mv rfl rfl rfl rfl rfl ?_
   refine RwM.ext rfl rfl rfl rfl rfl rfl ?_
   refine Qwn rfl rfl rfl rfl rfl rfl rfl ?_
   refine Qwk rfl rfl rfl rfl rfl ?_
   refine RwM.vcN hΓ 1 rfl ?_
   conv=>whnf
   refine RwM.fin ?_
   refine AWm.assoc (AWm.rg ?_)
   refine RwM.vcN hΓ 3 rfl ?_
   conv=>whnf
   refine QwB rfl rfl rfl rfl rfl rfl rfl rfl rfl ?_
   refine RwM.call (tj := 7) rfl rfl rfl rfl rfl rfl rfl rfl rfl ?_
   refine CallN.autoI [4, 3] Qva (Qvu s hs q h0 h1) plh ?_; conv=>whnf
   refine RwN.vc hΓ ?_
   ((conv=>whnf);(repeat' ((first|refine Nd ?_|refine Hv fun _h=>?_);conv=>whnf)))
   refine QvX hΓ ?_
   conv=>whnf
   refine Br.no rfl ?_
   ((conv=>whnf);(repeat' ((first|refine Nd ?_|refine Hv fun _h=>?_);conv=>whnf)))
   refine QvX hΓ ?_
   ((conv=>whnf);(repeat' ((first|refine Nd ?_|refine Hv fun _h=>?_);conv=>whnf)))
   rw [show Qk s q = (QaG s q, 0) from (Qxt ⟨hQ, by rw [hm]⟩).trans (by rw [hm])]
   exact QvC (FwT.consL (QwJ (QaG s q) (b := 3) rfl rfl (fun _ _ _ _ => rfl)) (FwT.consC (Fw.same rfl) FwT.nil))
  by_cases c3 : (s.works.getD q.toNat default).state = 3
  ·have hm : Qcu s q = (QbS s q, true) := (Qxu c1).trans ((Qxu c2).trans (Qxt c3))
   refine RwM.look hΓ (n := 3) (v := .func (.func 75) #[p] #[]) rfl rfl rfl rfl rfl rfl rfl (QxK (fun z => S.c (.int .i64 z)) c3) (by simp) (by simp) (by simp) ?_
   refine RwM.mv rfl rfl rfl rfl rfl ?_
   refine RwM.ext rfl rfl rfl rfl rfl rfl ?_
   refine Qwn rfl rfl rfl rfl rfl rfl rfl ?_
   refine Qwk rfl rfl rfl rfl rfl ?_
   refine RwM.vcN hΓ 1 rfl ?_
   conv=>whnf
   refine RwM.fin ?_
   refine AWm.assoc (AWm.rg ?_)
   refine RwM.vcN hΓ 3 rfl ?_
   conv=>whnf
   refine QwB rfl rfl rfl rfl rfl rfl rfl rfl rfl ?_
   refine RwM.call (tj := 7) rfl rfl rfl rfl rfl rfl rfl rfl rfl ?_
   refine CallN.autoI [4, 3] Qu4 (Qu0 s hs q h0 h1) plh ?_; conv=>whnf
   refine RwN.vc hΓ ?_
   ((conv=>whnf);(repeat' ((first|refine Nd ?_|refine Hv fun _h=>?_);conv=>whnf)))
   refine QvX hΓ ?_
   conv=>whnf
   refine Br.no rfl ?_
   ((conv=>whnf);(repeat' ((first|refine Nd ?_|refine Hv fun _h=>?_);conv=>whnf)))
   refine QvX hΓ ?_
   ((conv=>whnf);(repeat' ((first|refine Nd ?_|refine Hv fun _h=>?_);conv=>whnf)))
   rw [show Qk s q = (QbS s q, 0) from (Qxt ⟨hQ, by rw [hm]⟩).trans (by rw [hm])]
   exact QvC (FwT.consL (QwJ (QbS s q) (b := 3) rfl rfl (fun _ _ _ _ => rfl)) (FwT.consC (Fw.same rfl) FwT.nil))
  by_cases c4 : (s.works.getD q.toNat default).state = 4
  ·have hm : Qcu s q = QcC s q := (Qxu c1).trans ((Qxu c2).trans ((Qxu c3).trans (Qxt c4)))
   refine RwM.look hΓ (n := 4) (v := .func (.func 76) #[p] #[]) rfl rfl rfl rfl rfl rfl rfl (QxK (fun z => S.c (.int .i64 z)) c4) (by simp) (by simp) (by simp) ?_
   refine RwM.mv rfl rfl rfl rfl rfl ?_
   refine RwM.ext rfl rfl rfl rfl rfl rfl ?_
   refine Qwn rfl rfl rfl rfl rfl rfl rfl ?_
   refine Qwk rfl rfl rfl rfl rfl ?_
   refine RwM.vcN hΓ 1 rfl ?_
   conv=>whnf
   refine RwM.fin ?_
   refine AWm.assoc (AWm.rg ?_)
   refine RwM.vcN hΓ 3 rfl ?_
   conv=>whnf
   refine QwB rfl rfl rfl rfl rfl rfl rfl rfl rfl ?_
   refine RwM.call (tj := 7) rfl rfl rfl rfl rfl rfl rfl rfl rfl ?_
   refine QvJ 3 [4, 5, 6, 7, 55] [] [.vr s.cells, .vr (default : St).cells, .vr s.cells, .dead, .vr (s.jobF q)] [.c (.ptr 4 0)] rfl (Qxx _) (fun i _ j _ => QaW _ _) wb0 wb0 wb0 (Qxx _) ?_
   refine CallN.autoI [4] QuZ (Quc s hs l hall q h0 h1) plh ?_; conv=>whnf
   refine RwN.vc hΓ ?_
   ((conv=>whnf);(repeat' ((first|refine Nd ?_|refine Hv fun _h=>?_);conv=>whnf)))
   refine QvX hΓ ?_
   conv=>whnf
   by_cases cr : (QcC s q).2 = true
   ·refine Br.no (by rw [cr]; rfl) ?_
    ((conv=>whnf);(repeat' ((first|refine Nd ?_|refine Hv fun _h=>?_);conv=>whnf)))
    refine QvX hΓ ?_
    ((conv=>whnf);(repeat' ((first|refine Nd ?_|refine Hv fun _h=>?_);conv=>whnf)))
    rw [show Qk s q = ((QcC s q).1, 0) from (Qxt ⟨hQ, by rw [hm]; exact cr⟩).trans (by rw [hm])]
    exact QuV
   ·refine Br.yes (by rw [Qq cr]; rfl) ?_
    ((conv=>whnf);(repeat' ((first|refine Nd ?_|refine Hv fun _h=>?_);conv=>whnf)))
    rw [show Qk s q = (s, 6) from Qxu fun z => cr (by have := z.2; rw [hm] at this; exact this)]
    exact QuV
  have hm : Qcu s q = (s, false) := (Qxu c1).trans ((Qxu c2).trans ((Qxu c3).trans (Qxu c4)))
  refine Qw7 hΓ rfl rfl rfl rfl rfl rfl rfl rfl (by
   intro x hx
   simp at hx
   rcases hx with rfl | rfl | rfl | rfl
   ·exact ⟨_, rfl, QyL c1⟩
   ·exact ⟨_, rfl, QyL c2⟩
   ·exact ⟨_, rfl, QyL c3⟩
   ·exact ⟨_, rfl, QyL c4⟩) fun z => ?_
  refine RwM.mv rfl rfl rfl rfl rfl ?_
  refine RwM.ext rfl rfl rfl rfl rfl rfl ?_
  refine Qwn rfl rfl rfl rfl rfl rfl rfl ?_
  refine Qwk rfl rfl rfl rfl rfl ?_
  refine RwM.vcN hΓ 1 rfl ?_
  conv=>whnf
  refine RwM.fin (AWm.drop ?_)
  refine AWn.assoc (Qxf ?_)
  refine RwN.vcN hΓ 4 ?_
  ((conv=>whnf);(repeat' ((first|refine Nd ?_|refine Hv fun _h=>?_);conv=>whnf)))
  refine RwN.skip rfl rfl rfl rfl rfl rfl rfl (!!false) (.c (.bool true)) rfl ?_
  refine RwN.vc hΓ ?_
  ((conv=>whnf);(repeat' ((first|refine Nd ?_|refine Hv fun _h=>?_);conv=>whnf)))
  refine QvX hΓ ?_
  conv=>whnf
  refine Br.yes rfl ?_
  ((conv=>whnf);(repeat' ((first|refine Nd ?_|refine Hv fun _h=>?_);conv=>whnf)))
  rw [show Qk s q = (s, 6) from Qxu fun z => by have := z.2; rw [hm] at this; cases this]
  exact QuV
 ·have hb : Qk s q = (s, 6) := Qxu fun z => hQ z.1
  refine Br.yes (QxC fun z => hQ (by
   have z := Qq z
   cases hv : QaI s with
   | false => rw [hv] at z; cases z
   | true =>
    simp [hv] at z
    exact inQ_iff.2 ⟨hv, om, om⟩)) ?_
  ((conv=>whnf);(repeat' ((first|refine Nd ?_|refine Hv fun _h=>?_);conv=>whnf)))
  rw [hb]
  exact QuV
theorem Qa5 : HB 20 := hB Tryz.func20
def QcD (s : St) (e : Ent) : ByteArray :=
 if QdD s.dev e.zone e.offset = 0 ∧ (QaA (Q5 s.dev e.zone e.offset)).2 = true ∧ (QaA (Q5 s.dev e.zone e.offset)).1.kind = 1 ∧ (QaA (Q5 s.dev e.zone e.offset)).1.block = e.block ∧ (QaA (Q5 s.dev e.zone e.offset)).1.version = e.version then (QaA (Q5 s.dev e.zone e.offset)).1.payload else ByteArray.empty
theorem QpB (s : St) (e : Ent) : PS 27 [.a s.cells, .a e.cells] (.c (.str (QcD s e))) := by
 refine PSpec.rm ?_
 refine ov hΓ Tryz.func27 53 0 [.tmp 4] Tryz.ntmps27 Tryz.results27 ?_
 conv=>whnf
 refine QuU Qlt (Qlh s.dev e.zone e.offset ) ?_
 conv=>whnf
 refine QuU Qnu (Qod (Q5 s.dev e.zone e.offset) ) ?_
 ((conv=>whnf);(repeat' ((first|refine Nd ?_|refine Hv fun _h=>?_);conv=>whnf)))
 by_cases c : QdD s.dev e.zone e.offset = 0 ∧ (QaA (Q5 s.dev e.zone e.offset)).2 = true ∧ (QaA (Q5 s.dev e.zone e.offset)).1.kind = 1 ∧ (QaA (Q5 s.dev e.zone e.offset)).1.block = e.block ∧ (QaA (Q5 s.dev e.zone e.offset)).1.version = e.version
 ·rw [show QcD s e = (QaA (Q5 s.dev e.zone e.offset)).1.payload from Qxt c]
  refine Br.no (by rw [c.1, c.2.1, c.2.2.1, c.2.2.2.1, c.2.2.2.2]; simp) ?_
  conv=>whnf
  exact QuV
 ·rw [show QcD s e = ByteArray.empty from Qxu c]
  refine Br.yes (QxC fun z => c (by
   have z := Qq z
   simp at z
   simp [and_assoc, z])) ?_
  conv=>whnf
  exact QuV
theorem Qrh : HB 27 := hB Tryz.func27
theorem QtP {x y : Int} (hx : 0 ≤ x ∧ x < 281474976710656) (hy : 0 ≤ y ∧ y < 256) : orW (shW x) y = 256 * x + y := by
 obtain ⟨n, rfl⟩ := Int.eq_ofNat_of_zero_le hx.1
 obtain ⟨m, rfl⟩ := Int.eq_ofNat_of_zero_le hy.1
 have e0 : shW (n : Int) = ((256 * n : Nat) : Int) := by
  unfold shW
  rw [show min (8 : Int).toNat IntKind.i64.bits = 8 from rfl, show (2 : Int) ^ 8 = 256 from rfl, Qa _ om om]
  omega
 rw [e0]
 unfold orW
 have e1 : (BitVec.ofInt IntKind.i64.bits ((256 * n : Nat) : Int) ||| BitVec.ofInt IntKind.i64.bits (m : Int)).toNat = 256 * n + m := by
  show (BitVec.ofInt 64 ((256 * n : Nat) : Int) ||| BitVec.ofInt 64 (m : Int)).toNat = _
  rw [BitVec.toNat_or, QyC, QyC]
  rw [show (((256 * n : Nat) : Int) % ((2 ^ 64 : Nat) : Int)).toNat = 2 ^ 8 * n by omega, show ((m : Int) % ((2 ^ 64 : Nat) : Int)).toNat = m by omega]
  rw [← Nat.two_pow_add_eq_or_of_lt (show m < 2 ^ 8 by omega)]
 rw [e1, Qa _ om om]
 omega
theorem Qnc {b : ByteArray} {p size : Nat} {n : Int} (h0 : 0 ≤ n) (hn : n < 281474976710656) (hlt : n < 256 ^ size) (h : ∀ i, i < size → Qa8 b (p + i) = n / 256 ^ i % 256) : ∀ k, k ≤ size → Qdx b p size k = n / 256 ^ (size - k)
 | 0, _ => by
  show (0 : Int) = _
  rw [Nat.sub_zero, Int.ediv_eq_zero_of_lt h0 hlt]
 | k + 1, hk => by
  have ih := Qnc h0 hn hlt h k om
  show orW (shW (Qdx b p size k)) (Qa8 b (p + (size - 1 - k))) = _
  rw [ih, h _ om]
  have e : size - k = (size - (k + 1)) + 1 := by omega
  have e2 : size - 1 - k = size - (k + 1) := by omega
  rw [e, e2]
  generalize size - (k + 1) = j
  have hp : (0 : Int) < 256 ^ j := Int.pow_pos (by decide)
  have e3 : n / 256 ^ (j + 1) = n / 256 ^ j / 256 := by rw [Int.pow_succ, Int.ediv_ediv_of_nonneg (Int.le_of_lt hp)]
  rw [e3]
  generalize hq : n / 256 ^ j = q
  have hq0 : 0 ≤ q := by rw [← hq]; exact Int.ediv_nonneg h0 (Int.le_of_lt hp)
  have hqn : q ≤ n := by rw [← hq]; exact Int.ediv_le_self _ h0
  rw [QtP om om]
  omega
theorem QoJ (h0 : 0 ≤ n) (hi : i < 8) : putB n i = n / 256 ^ i % 256 := by
 unfold putB
 have e1 : IntKind.i64.wrap (8 * (i : Int)) = 8 * (i : Int) := Qa _ om om
 have e2 : IntKind.u64.wrap (8 * (i : Int)) = 8 * (i : Int) := by rw [IntKind.wrap_u64]; omega
 have e3 : min (8 * (i : Int)).toNat IntKind.i64.bits = 8 * i := by
  show min (8 * (i : Int)).toNat 64 = 8 * i
  omega
 rw [e1, e2, e3, Qy8 _ (by exact Int.le_of_lt (Int.pow_pos (by decide)))]
 rw [IntKind.wrap_u8, Int.pow_mul]
 rfl
theorem QqX (hi : i < k) (h8 : k ≤ 8) (h0 : 0 ≤ n) : Qa8 (a ++ (putS n k ++ c)) (a.size + i) = n / 256 ^ i % 256 := by
 have hb : (a ++ (putS n k ++ c)).data.toList.getD (a.size + i) 0 = Qc6 (.int .u8 (putB n i)) := by
  simp only [QyY, QyO, List.getD]
  rw [QxY (by simp)]
  have ha : a.size + i - a.data.toList.length = i := by simp
  rw [ha, QxS (by unfold putS QQ; simp; exact hi)]
  unfold putS QQ
  simp [hi]
 unfold Qa8
 rw [hb, ← QoJ h0 om]
 have hr : 0 ≤ putB n i ∧ putB n i < 256 := by rw [QoJ h0 om]; omega
 have : (Qc6 (.int .u8 (putB n i))).toNat = (putB n i).toNat := by
  unfold Qc6
  simp
  omega
 rw [this, Qa _ om om]
 omega
theorem Qs2 (h8 : k ≤ 6) (h0 : 0 ≤ n) (hlt : n < 256 ^ k) : getS (a ++ (putS n k ++ c)) a.size k = n := by
 unfold getS
 rw [Qxu (by simp only [QxZ, QI]; omega)]
 have hn : n < 281474976710656 := Int.lt_of_lt_of_le hlt (by
  have : (256 : Int) ^ k ≤ 256 ^ 6 := by exact_mod_cast Nat.pow_le_pow_right (by decide) h8
  exact Int.le_trans this (by decide))
 rw [Qnc h0 hn hlt (fun i hi => QqX hi om h0) k (QxB _)]
 rw [Nat.sub_self, Int.pow_zero, Int.ediv_one]
theorem QnK {b : ByteArray} (hp : a.size = p) : (a ++ (b ++ c)).extract p (p + b.size) = b := by
 subst hp
 apply ByteArray.ext
 apply Array.ext'
 simp [QyY, ByteArray.data_extract]
 rw [List.drop_of_length_le (by simp), List.take_nil, List.nil_append]
 exact QyQ (by simp)
theorem QnE {b : ByteArray} : (a ++ b).extract 0 a.size = a := by
 apply ByteArray.ext
 apply Array.ext'
 simp [QyY, ByteArray.data_extract]
 exact QyQ (by simp)
theorem QmJ (h : Qm r = 0) : (QV r).size = 36 := by
 obtain ⟨_, _, h3⟩ := QaY h
 unfold QV
 simp only [QxZ, QI, QaZ _ h3]
 rfl
theorem Qcw (h : Qm r = 0) : encR r = QV r ++ putS (IntKind.i64.wrap (addU 0 (QV r))) 4 := Qxt h
theorem Qai (h : Qm r = 0) : (encR r).size = 40 := by
 rw [Qcw h, QxZ, QI, QmJ h]
theorem Qcs {s : ByteArray} (hs : s = a ++ (putS n k ++ c)) (hp : a.size = p) (h8 : k ≤ 6) (h0 : 0 ≤ n) (hlt : n < 256 ^ k) : getS s p k = n := by
 subst hs; subst hp; exact Qs2 h8 h0 hlt
theorem Qib (h : Qm r = 0) : rawR (encR r) = r := by
 obtain ⟨h1, h2, h3⟩ := QaY h
 obtain ⟨z, hz⟩ : ∃ z, padS r.payload = r.payload ++ z := by
  unfold padS
  split
  ·exact ⟨_, rfl⟩
  ·exact ⟨ByteArray.empty, by rw [ByteArray.append_empty]⟩
 have ek : getS (encR r) 2 1 = r.kind := by
  refine Qcs (a := ⟨#[90, 65]⟩) (c := ?_) ?_ rfl (by decide) om (by show r.kind < 256; omega)
  rotate_left
  ·rw [Qcw h]; unfold QV; simp only [QyR]; rfl
 have es : getS (encR r) 3 1 = (r.payload.size : Int) := by
  refine Qcs (a := ⟨#[90, 65]⟩ ++ putS r.kind 1) (c := ?_) ?_ (by simp only [QxZ, QI]; rfl) (by decide) om (by show (r.payload.size : Int) < 256; omega)
  rotate_left
  ·rw [Qcw h]; unfold QV; simp only [QyR]; rfl
 have eb : getS (encR r) 4 4 = r.block := by
  refine Qcs (a := ⟨#[90, 65]⟩ ++ (putS r.kind 1 ++ putS r.payload.size 1)) (c := ?_) ?_ (by simp only [QxZ, QI]; rfl) (by decide) om (by show r.block < 4294967296; omega)
  rotate_left
  ·rw [Qcw h]; unfold QV; simp only [QyR]; rfl
 have ev : getS (encR r) 8 6 = r.version := by
  refine Qcs (a := ⟨#[90, 65]⟩ ++ (putS r.kind 1 ++ (putS r.payload.size 1 ++ putS r.block 4))) (c := ?_) ?_ (by simp only [QxZ, QI]; rfl) (by decide) om (by show r.version < 281474976710656; omega)
  rotate_left
  ·rw [Qcw h]; unfold QV; simp only [QyR]; rfl
 have em : getS (encR r) 14 1 = r.move := by
  refine Qcs (a := ⟨#[90, 65]⟩ ++ (putS r.kind 1 ++ (putS r.payload.size 1 ++ (putS r.block 4 ++ putS r.version 6)))) (c := ?_) ?_ (by simp only [QxZ, QI]; rfl) (by decide) om (by show r.move < 256; omega)
  rotate_left
  ·rw [Qcw h]; unfold QV; simp only [QyR]; rfl
 have ep : (encR r).extract 16 (16 + r.payload.size) = r.payload := by
  have e : encR r = (⟨#[90, 65]⟩ ++ (putS r.kind 1 ++ (putS r.payload.size 1 ++ (putS r.block 4 ++ (putS r.version 6 ++ (putS r.move 1 ++ ⟨#[0]⟩)))))) ++ (r.payload ++ (z ++ putS (IntKind.i64.wrap (addU 0 (QV r))) 4)) := by
   rw [Qcw h]
   generalize putS (IntKind.i64.wrap (addU 0 (QV r))) 4 = y
   unfold QV
   rw [hz]
   simp only [QyR]
  rw [e]
  exact QnK (by simp only [QxZ, QI]; rfl)
 unfold rawR
 rw [ek, es, eb, ev, em]
 rw [show (16 + min (r.payload.size : Int) 20).toNat = 16 + r.payload.size by omega, ep]
theorem QoD (h : Qm r = 0) : decE (encR r) = 0 ∧ decR (encR r) = r := by
 have hd : decE (encR r) = 0 := by
  unfold decE
  rw [Qxt (Qai h), Qxt, Qxt ⟨by rw [Qib h]; exact h, by rw [Qib h]⟩]
  have hb := QmJ h
  have hl := Qfq 0 (QV r)
  have e1 : (encR r).extract 0 36 = QV r := by rw [Qcw h, ← hb]; exact QnE
  rw [e1]
  unfold sumW
  rw [Qa _ om om]
  refine Qcs (a := QV r) (c := ByteArray.empty) ?_ hb (by decide) hl.1 (by show addU 0 (QV r) < 4294967296; exact hl.2)
  rw [ByteArray.append_empty, Qcw h, Qa _ om om]
 exact ⟨hd, by unfold decR; rw [Qxt hd, Qib h]⟩
theorem QjM (h : Qm r = 0) (hk : QbB r = true) : blkE (encR r) = 0 ∧ QaA (encR r) = (r, true) := by
 obtain ⟨h1, h2⟩ := QoD h
 refine ⟨?_, ?_⟩
 ·unfold blkE; rw [Qxt h1, h2, Qxt hk]
 ·unfold QaA; rw [h1, h2, Qxt ⟨rfl, hk⟩]
end Go.Proofs
end

section
open Go Go.Am
namespace Go.Proofs
set_option maxRecDepth 20000
variable {z n : Int} {s : ByteArray}
def zAt (d : Dev) (z : Int) : Zone := d.zones.getD z.toNat default
theorem QiV {p : Zone → Bool} (hp : p QbP = false) : ∀ (ks : List Nat) (l : List Zone), (∀ i, i < l.length → p (l.getD i default) = true → i ∈ ks) → (l.filter p).length ≤ ks.length
 | [], l, h => by
  have : l.filter p = [] := List.filter_eq_nil_iff.2 fun x hx hq => by
   obtain ⟨i, hi, rfl⟩ := QxP hx
   have := h i hi (by rw [Qu _ _ hi]; exact hq)
   cases this
  rw [this]; exact Qxx _
 | k :: ks, l, h => by
  by_cases hk : k < l.length
  ·have h1 := QiV hp ks (l.set k QbP) fun i hi hq => by
    rw [QxT] at hi
    rw [QbA hk] at hq
    by_cases e : i = k
    ·rw [Qxt e, hp] at hq; cases hq
    ·rw [Qxu e] at hq
     exact (Qyf.1 (h i hi hq)).resolve_left e
   have h2 := Qhn p QbP l k hk
   rw [hp] at h2
   simp only [Qy3, if_false, Qzb] at h2
   have h3 : (if p (l.getD k default) = true then 1 else 0) ≤ 1 := by split <;> omega
   simp only [QxR]
   omega
  ·have h1 := QiV hp ks l fun i hi hq => (Qyf.1 (h i hi hq)).resolve_left om
   simp only [QxR]
   omega
structure DevQ (d : Dev) (ks : List Int) : Prop where
 ok : d.ok
 mo : d.maxOpen = 3
 ma : d.maxActive = 3
 st : ∀ i, i < d.zones.length → (d.zones.getD i default).state = 0 ∨ (d.zones.getD i default).state = 1 ∨ (d.zones.getD i default).state = 4
 act : ∀ i : Nat, i < d.zones.length → (d.zones.getD i default).state = 1 → (i : Int) ∈ ks
 secs : ∀ i, i < d.zones.length → (d.zones.getD i default).state ≠ 4 → ∀ x ∈ (d.zones.getD i default).sectors, blkE x = 0
variable {d : Dev} {ks : List Int}
theorem DevQ.size (h : DevQ d ks) : 3 ≤ d.size ∧ d.size ≤ 64 := (confOk_iff.1 h.ok.conf).size
theorem DevQ.cnt (h : DevQ d ks) : Qi d.zones ≤ ks.length ∧ QH d.zones ≤ Qi d.zones := by
 constructor
 ·refine Qza (QiV (p := fun z => QP z.state) rfl (ks.map Int.toNat) d.zones fun i hi hq => ?_) (by simp)
  have := isActive_iff.1 hq
  have h2 := h.st i hi
  have h3 := h.act i hi om
  exact Qyj.2 ⟨i, h3, by simp⟩
 ·unfold QH Qi
  rw [← List.countP_eq_length_filter, ← List.countP_eq_length_filter]
  exact List.countP_mono_left fun x _ hx => by
   have := isOpen_iff.1 hx
   exact isActive_iff.2 om
theorem DevQ.cnt0 (h : DevQ d ks) (hz : z ∈ ks) (h0 : 0 ≤ z) (hs : (zAt d z).state = 0) : Qi d.zones + 1 ≤ ks.length := by
 have h1 := QiV (p := fun z => QP z.state) rfl ((ks.erase z).map Int.toNat) d.zones fun i hi hq => by
  have := isActive_iff.1 hq
  have h2 := h.st i hi
  have h3 := h.act i hi om
  have hne : (i : Int) ≠ z := fun e => by
   have : i = z.toNat := by omega
   subst this
   unfold zAt at hs
   rw [hs] at hq; cases hq
  exact Qyj.2 ⟨i, (List.mem_erase_of_ne hne).2 h3, by simp⟩
 have h2 := List.length_erase_of_mem hz
 have h3 := List.length_pos_of_mem hz
 rw [Qy7] at h1
 show (d.zones.filter fun z => QP z.state).length + 1 ≤ _
 omega
theorem DevQ.empty (h : DevQ d ks) {i : Nat} (hi : i < d.zones.length) (hs : (d.zones.getD i default).state = 0) : (d.zones.getD i default).sectors.length = 0 := (h.ok.all.get hi).emp (.inl hs)
theorem Qoq {z : Nat} (h : QF (d.zones.getD z default).state = true ∨ (QH d.zones : Int) < d.maxOpen ∧ (Qi d.zones : Int) < d.maxActive) : Qal d z = d.zones ∧ (QF (d.zones.getD z default).state = true ∨ (Qe d z).1 = 0) := by
 unfold Qal
 by_cases c : QF (d.zones.getD z default).state = true
 ·rw [Qxt c]; exact ⟨rfl, .inl c⟩
 ·rw [Qxu c]
  obtain ⟨h1, h2⟩ := h.resolve_left c
  unfold Qe
  rw [Qxu om]
  dsimp only
  rw [Qxu om]
  exact ⟨rfl, .inr rfl⟩
theorem DevQ.app (h : DevQ d ks) (hk : ks.length ≤ 3) (hz : z ∈ ks) (h0 : 0 ≤ z) (h1 : z < d.zones.length) (h4 : (zAt d z).state ≠ 4) (hs : s.size = 40) :
  Qj d z s = 0 ∧ Qf d z s = { d with zones := d.zones.set z.toNat (grow (zAt d z) d.size s) } ∧ QA d z s = (zAt d z).sectors.length ∧ ((zAt d z).sectors.length : Int) < d.size := by
 have hlt : z.toNat < d.zones.length := by omega
 have hst := h.st _ hlt
 have hr : QF (d.zones.getD z.toNat default).state = true ∨ (QH d.zones : Int) < d.maxOpen ∧ (Qi d.zones : Int) < d.maxActive := by
  rcases hst with q | q | q
  ·have := h.cnt0 hz h0 q
   have := h.cnt.2
   rw [h.mo, h.ma]
   exact .inr ⟨om, om⟩
  ·exact .inl (isOpen_iff.2 (.inl q))
  ·exact absurd q h4
 obtain ⟨e1, e2⟩ := Qoq hr
 have he : Qj d z s = 0 := by
  unfold Qj
  rw [Qxt (check_ok.2 h.ok), Qxt (Qxz ⟨h0, h1⟩), Qxt hs, Qxu (by unfold zAt at h4; omega), Qxu (show ¬(d.zones.getD z.toNat default).state = 4 from h4)]
  rcases e2 with q | q
  ·rw [Qxt q]
  ·split
   ·rfl
   ·exact q
 refine ⟨he, ?_, ?_, ?_⟩
 ·unfold Qf; rw [Qxt he, e1]; rfl
 ·unfold QA; rw [Qxt he]; rfl
 ·have hz := h.ok.all.get hlt
  have := h.size
  rcases hst with q | q | q
  ·have := h.empty hlt q
   show ((d.zones.getD z.toNat default).sectors.length : Int) < _
   omega
  ·exact hz.part om h4 om
  ·exact absurd q h4
theorem QdT {z : Zone} : (grow z n s).sectors = z.sectors ++ [s] := by unfold grow; split <;> rfl
theorem Qhr {z : Zone} (h : z.state = 0 ∨ z.state = 1) : (grow z n s).state = if (z.sectors.length : Int) + 1 = n then 4 else 1 := by
 unfold grow
 split
 ·rfl
 ·rcases h with q | q <;> (show (if QF z.state = true then z.state else 1) = 1; rw [q]; rfl)
theorem DevQ.app2 (h : DevQ d ks) (hk : ks.length ≤ 3) (hz : z ∈ ks) (h0 : 0 ≤ z) (h1 : z < d.zones.length) (h4 : (zAt d z).state ≠ 4) (hs : s.size = 40) (hb : ((zAt d z).sectors.length : Int) + 1 = d.size ∨ blkE s = 0) : DevQ (Qf d z s) ks := by
 obtain ⟨e1, e2, e3, e4⟩ := h.app hk hz h0 h1 h4 hs
 have hlt : z.toNat < d.zones.length := by omega
 have hst : (zAt d z).state = 0 ∨ (zAt d z).state = 1 := by
  rcases h.st _ hlt with q | q | q
  ·exact .inl q
  ·exact .inr q
  ·exact absurd q h4
 have hg := Qhr (n := d.size) (s := s) hst
 have hok := QkV h.ok z s
 rw [e2] at hok ⊢
 refine ⟨hok, h.mo, h.ma, fun i hi => ?_, fun i hi => ?_, fun i hi => ?_⟩ <;> (
  simp only [QxT] at hi
  dsimp only
  rw [QbA hlt]
  by_cases c : i = z.toNat)
 ·rw [Qxt c, hg]
  split
  ·exact .inr (.inr rfl)
  ·exact .inr (.inl rfl)
 ·rw [Qxu c]; exact h.st i hi
 ·rw [Qxt c]
  intro _
  rw [show (i : Int) = z by omega]; exact hz
 ·rw [Qxu c]; exact h.act i hi
 ·rw [Qxt c, hg, QdT]
  intro q x hx
  rcases Qyc.1 hx with hx | hx
  ·exact h.secs z.toNat hlt h4 x hx
  ·rw [Qyy.1 hx]
   rcases hb with hb | hb
   ·rw [Qxt hb] at q; exact absurd rfl q
   ·exact hb
 ·rw [Qxu c]; exact h.secs i hi
theorem DevQ.mono {ks' : List Int} (h : DevQ d ks) (hk : ∀ i : Nat, i < d.zones.length → (d.zones.getD i default).state = 1 → (i : Int) ∈ ks → (i : Int) ∈ ks') : DevQ d ks' :=
 ⟨h.ok, h.mo, h.ma, h.st, fun i hi hs => hk i hi hs (h.act i hi hs), h.secs⟩
theorem Qms (d : Dev) (i : Nat) : (d.zones.map QcF).getD i default = QcF (d.zones.getD i default) := by
 by_cases c : i < d.zones.length
 ·simp [List.getD, c]
 ·simp [List.getD, QyB c]; rfl
theorem DevQ.sync (h : DevQ d ks) : DevQ (Qbo d) ks := by
 unfold Qbo
 rw [Qxt (check_ok.2 h.ok)]
 refine ⟨Qiz h.ok, h.mo, h.ma, fun i hi => ?_, fun i hi => ?_, fun i hi => ?_⟩ <;> (
  simp only [Qy7] at hi
  dsimp only
  rw [Qms])
 ·exact h.st i hi
 ·exact h.act i hi
 ·exact h.secs i hi
end Go.Proofs
end

section
open Go Go.Am
namespace Go.Proofs
set_option maxRecDepth 20000
variable {d : Dev} {e : Ent} {p : Ent → Prop} {m : List (List Ent)} {b : Int}
structure Grows (d d' : Dev) : Prop where
 len : d'.zones.length = d.zones.length
 secs : ∀ i : Nat, ∃ t, (d'.zones.getD i default).sectors = (d.zones.getD i default).sectors ++ t
theorem QeZ (d : Dev) (z : Int) (s : ByteArray) : Grows d (Qf d z s) := by
 refine ⟨Qa7 d z s, fun k => ?_⟩
 unfold Qf
 by_cases h : Qj d z s = 0
 ·rw [Qxt h]
  have hz := (QcA (QgW h).1).2
  have hl := Qkq d z.toNat
  have hg := Qkj d z.toNat
  dsimp only
  rw [QbA om]
  by_cases c : k = z.toNat
  ·rw [Qxt c, QdT, hg]; subst c; exact ⟨_, rfl⟩
  ·rw [Qxu c, hg]; exact ⟨[], (Qy1 _).symm⟩
 ·rw [Qxu h]; exact ⟨[], (Qy1 _).symm⟩
def Held (d : Dev) (e : Ent) : Prop := e.kind = 1 → ∃ r, Qm r = 0 ∧ r.kind = 1 ∧ r.block = e.block ∧ r.version = e.version ∧ (0 ≤ e.zone ∧ e.zone < d.zones.length) ∧ (0 ≤ e.offset ∧ e.offset < (zAt d e.zone).sectors.length) ∧ (zAt d e.zone).sectors.getD e.offset.toNat ByteArray.empty = encR r
theorem Held.grows {d' : Dev} (h : Held d e) (g : Grows d d') : Held d' e := fun hk => by
 obtain ⟨r, h1, h2, h3, h4, h5, h6, h7⟩ := h hk
 obtain ⟨t, ht⟩ := g.secs e.zone.toNat
 refine ⟨r, h1, h2, h3, h4, by rw [g.len]; exact h5, ?_, ?_⟩
 ·unfold zAt at h6 ⊢
  rw [ht, QxL]; omega
 ·unfold zAt at h6 h7 ⊢
  have hlt : e.offset.toNat < (d.zones.getD e.zone.toNat default).sectors.length := by omega
  rw [ht, ← h7]
  simp only [List.getD] at hlt ⊢
  rw [QxS hlt]
theorem Held.sync (hd : d.ok) (h : Held d e) : Held (Qbo d) e := h.grows (by
 unfold Qbo
 rw [Qxt (check_ok.2 hd)]
 exact ⟨by simp, fun i => ⟨[], by rw [Qy1]; dsimp only; rw [Qms]; rfl⟩⟩)
def AllH (p : Ent → Prop) (m : List (List Ent)) : Prop := ∀ l ∈ m, ∀ e ∈ l, p e
theorem AllH.get (h : AllH p m) (i : Nat) : ∀ e ∈ m.getD i default, p e := by
 by_cases c : i < m.length
 ·rw [Qu _ _ c]; exact h _ (Qx0 c)
 ·rw [show m.getD i default = [] by simp [List.getD, QyB c]; rfl]
  exact fun e he => by cases he
theorem AllH.set {p : Ent → Prop} {m : List (List Ent)} (h : AllH p m) (i : Nat) {l : List Ent} (hl : ∀ e ∈ l, p e) : AllH p (m.set i l) := fun l' hl' => by
 rcases List.mem_or_eq_of_mem_set hl' with q | q
 ·exact h l' q
 ·rw [q]; exact hl
theorem AllH.mono {q : Ent → Prop} (h : AllH p m) (hq : ∀ e, p e → q e) : AllH q m := fun l hl e he => hq e (h l hl e he)
theorem Qw5 (h : AllH p m) {x : Ent} (hx : p x) : AllH p (Qax m x).1 := by
 unfold Qax
 split
 ·split
  ·refine h.set _ fun e he => ?_
   unfold QaP at he
   split at he
   ·split at he
    ·split at he
     ·exact h.get _ e he
     ·rcases Qf2 he with q | q
      ·rw [q]; exact hx
      ·exact h.get _ e q
    ·exact h.get _ e he
   ·cases he
  ·exact h
 ·exact h
theorem AllH.find (h : AllH p m) (hf : (QfX m b).2 = true) : p (QfX m b).1 ∧ (QfX m b).1.block = b := by
 unfold QfX at hf ⊢
 split at hf
 ·rename_i q
  rw [Qxt q]
  unfold QO at hf ⊢
  split at hf
  ·rename_i w
   rw [Qxt w]
   have hh := w.2
   unfold hasM at hh
   rw [Qxw] at hh
   exact ⟨h.get (QE m b) _ (by rw [Qu _ _ hh.1]; exact Qx0 hh.1), hh.2⟩
  ·cases hf
 ·cases hf
theorem Qxa (h : AllH p m) {v fz fo tz t2 move : Int} (hp : ∀ e, p e → e.zone = fz → e.offset = fo → p { e with zone := tz, offset := t2, move := move }) : AllH p (relM m b v fz fo tz t2 move).1 := by
 unfold relM
 split
 ·split
  ·rename_i q w
   refine h.set _ fun e he => ?_
   unfold relE at he w
   split at he
   ·rename_i z
    rw [Qxt z] at w
    split at he
    ·rename_i y
     rcases List.mem_or_eq_of_mem_set he with u | u
     ·exact h.get _ e u
     ·rw [u]
      have hf : (QfX m b).2 = true := by unfold QfX; rw [Qxt q]; exact y.1
      have := (h.find hf).1
      unfold QfX at this
      rw [Qxt q] at this
      exact hp _ this y.2.2.1 y.2.2.2.1
    ·exact h.get _ e he
   ·cases he
  ·exact h
 ·exact h
structure Lk (s : St) (ks : List Int) : Prop where
 dev : DevQ s.dev ks
 free : ∀ z ∈ s.free, (zAt s.dev z).state = 0
 ents : AllH (Held s.dev) s.map
 pend : ∀ i, s.pend.getD i default = 0
 pins : ∀ i, i < s.pins.length → s.pins.getD i default = -1
abbrev Lq (s : St) : Prop := Lk s [s.host, s.lane]
variable {s : St} {ks : List Int} {z : Int}
theorem QnZ (s : St) (e : Ent) : (s.install e).dev = s.dev ∧ (s.install e).free = s.free ∧ (s.install e).pend = s.pend ∧ (s.install e).pins = s.pins ∧ (s.install e).host = s.host ∧ (s.install e).lane = s.lane ∧ ((s.install e).map = s.map ∨ (s.install e).map = (Qax s.map e).1) := by
 unfold St.install
 split
 ·exact ⟨rfl, rfl, rfl, rfl, rfl, rfl, .inr rfl⟩
 ·exact ⟨rfl, rfl, rfl, rfl, rfl, rfl, .inl rfl⟩
theorem QcR {z y : Int} {x : Zone} (h0 : 0 ≤ z) (h1 : z < d.zones.length) : zAt { d with zones := d.zones.set z.toNat x } y = if y.toNat = z.toNat then x else zAt d y := by
 unfold zAt
 dsimp only
 rw [QbA om]
structure Wz (s : St) (ks : List Int) (z : Int) (k : Nat) : Prop where
 mem : z ∈ ks
 ge : 0 ≤ z
 lt : z < s.dev.zones.length
 nfree : z ∉ s.free
 len : (zAt s.dev z).sectors.length = k
 st : (zAt s.dev z).state ≠ 4
theorem Lk.app (h : Lk s ks) (hk : ks.length ≤ 3) {k : Nat} (w : Wz s ks z k) (hn : ∀ y ∈ s.free, 0 ≤ y) {x : ByteArray} (hx : x.size = 40) (hb : (k : Int) + 1 = s.dev.size ∨ blkE x = 0) :
  Qj s.dev z x = 0 ∧ QA s.dev z x = k ∧ (k : Int) < s.dev.size ∧ DevQ (Qf s.dev z x) ks ∧ (∀ y ∈ s.free, (zAt (Qf s.dev z x) y).state = 0) ∧ (zAt (Qf s.dev z x) z).sectors = (zAt s.dev z).sectors ++ [x] ∧ (zAt (Qf s.dev z x) z).state = (if (k : Int) + 1 = s.dev.size then 4 else 1) ∧ (Qf s.dev z x).size = s.dev.size := by
 obtain ⟨e1, e2, e3, e4⟩ := h.dev.app hk w.mem w.ge w.lt w.st hx
 have h2 := h.dev.app2 hk w.mem w.ge w.lt w.st hx (by rw [w.len]; exact hb)
 have hst : (zAt s.dev z).state = 0 ∨ (zAt s.dev z).state = 1 := by
  rcases h.dev.st z.toNat (by have := w.lt; have := w.ge; omega) with q | q | q
  ·exact .inl q
  ·exact .inr q
  ·exact absurd q w.st
 rw [w.len] at e3 e4
 refine ⟨e1, e3, e4, h2, fun y hy => ?_, ?_, ?_, by rw [e2]⟩
 ·rw [e2, QcR w.ge w.lt, Qxu]
  ·exact h.free y hy
  ·intro q
   have := hn y hy
   have := w.ge
   exact w.nfree ((show y = z by omega) ▸ hy)
 ·rw [e2, QcR w.ge w.lt, Qxt rfl, QdT]
 ·rw [e2, QcR w.ge w.lt, Qxt rfl, Qhr hst, w.len]
theorem Lk.add (h : Lk s ks) (hk : ks.length ≤ 3) {k : Nat} (w : Wz s ks z k) (hn : ∀ y ∈ s.free, 0 ≤ y) {r : Rec} (hr : Qm r = 0) (hb : QbB r = true) :
  Lk (s.add z r) ks ∧ ((k : Int) + 1 < s.dev.size → Wz (s.add z r) ks z (k + 1)) ∧ (s.add z r).host = s.host ∧ (s.add z r).lane = s.lane ∧ (s.add z r).free = s.free ∧ (s.add z r).dev = Qf s.dev z (encR r) := by
 obtain ⟨e1, e2, e3, e4, e5, e6, e7, e8⟩ := h.app hk w hn (Qai hr) (.inr (QjM hr hb).1)
 have hg := QeZ s.dev z (encR r)
 unfold St.add
 rw [Qxt e1]
 obtain ⟨i1, i2, i3, i4, i5, i6, i7⟩ := QnZ (s.put z r) (recE r z (QA s.dev z (encR r)))
 have hdev : (s.put z r).dev = Qf s.dev z (encR r) := rfl
 have hm : AllH (Held (Qf s.dev z (encR r))) s.map := h.ents.mono fun e he => he.grows hg
 have hlt := w.lt
 have hge := w.ge
 refine ⟨⟨by rw [i1]; exact e4, by rw [i1, i2]; exact e5, ?_, by rw [i3]; exact h.pend, by rw [i4]; exact h.pins⟩, fun hlt2 => ⟨w.mem, w.ge, by rw [i1, hdev, Qa7]; exact hlt, by rw [i2]; exact w.nfree, by rw [i1, hdev, e6, QxL, w.len]; rfl, by rw [i1, hdev, e7, Qxu om]; decide⟩, i5, i6, i2, by rw [i1, hdev]⟩
 rw [i1, hdev]
 rcases i7 with q | q
 ·rw [q]; exact hm
 ·rw [q]
  refine Qw5 (m := (s.put z r).map) hm fun hkk => ⟨r, hr, hkk, rfl, rfl, ⟨hge, by rw [Qa7]; exact hlt⟩, ?_, ?_⟩
  ·show 0 ≤ QA s.dev z (encR r) ∧ QA s.dev z (encR r) < ((zAt (Qf s.dev z (encR r)) z).sectors.length : Int)
   rw [e2, e6, QxL, w.len]
   simp only [QxR, Qx5]
   omega
  ·show (zAt (Qf s.dev z (encR r)) z).sectors.getD (QA s.dev z (encR r)).toNat ByteArray.empty = encR r
   rw [e2, e6]
   simp only [List.getD]
   rw [Qxy, QxY (by rw [w.len]; exact QxB _), w.len, Nat.sub_self]
   rfl
theorem Qgn {l : List ByteArray} (h : ∀ x ∈ l, blkE x = 0) : ∀ k, k ≤ l.length → QY l k = 0
 | 0, _ => rfl
 | k + 1, hk => by
  simp only [QY]
  rw [Qxt (Qgn h k om)]
  have : l.getD k ByteArray.empty = l[k] := by simp [List.getD, show k < l.length by omega]
  rw [this]
  exact h _ (Qx0 _)
theorem QsA {s : ByteArray} (h : blkE s = 0) : decE s = 0 := by
 unfold blkE at h
 by_cases q : decE s = 0
 ·exact q
 ·rw [Qxu q] at h; exact h
theorem Qg7 {l : List ByteArray} (h : ∀ x ∈ l, blkE x = 0) (h1 : 1 ≤ l.length) (h2 : l.length ≤ 64) : QaF l = 0 ∧ Qm (QU l) = 0 := by
 have e : QaF l = 0 := by
  unfold QaF
  rw [Qxu om]
  exact Qgn h _ (QxB _)
 have hr := QcG l l.length fun i hi => QsA (by
  have : l.getD i ByteArray.empty = l[i] := by simp [List.getD, hi]
  rw [this]; exact h _ (Qx0 _))
 refine ⟨e, ?_⟩
 unfold QU
 rw [Qxt e]
 unfold Qm
 dsimp only
 rw [Qxt (Qxz om), Qxt (Qxz om), Qxt (Qxz ?_)]
 refine ⟨by rw [QxZ, QI, QI]; decide, fun q => by omega, fun q => by omega⟩
theorem Lk.weak {ks' : List Int} (h : Lk s ks) (hk : ∀ i ∈ ks, 0 ≤ i → (zAt s.dev i).state = 1 → i ∈ ks') : Lk s ks' :=
 ⟨h.dev.mono fun i _ hs hm => hk _ hm om (by unfold zAt; rw [Qxy]; exact hs), h.free, h.ents, h.pend, h.pins⟩
theorem Lk.sealed (h : Lk s ks) (hk : ks.length ≤ 3) {k : Nat} (w : Wz s ks z k) (hn : ∀ y ∈ s.free, 0 ≤ y) (he : (k : Int) + 1 = s.dev.size) : Lk (s.seal z) ks ∧ (zAt (s.seal z).dev z).state = 4 := by
 have hs := h.dev.size
 have hlt : z.toNat < s.dev.zones.length := by have := w.lt; have := w.ge; omega
 have hm := Qg7 (h.dev.secs z.toNat hlt w.st) (by have := w.len; unfold zAt at this; omega) (by have := w.len; unfold zAt at this; omega)
 obtain ⟨e1, e2, e3, e4, e5, e6, e7, e8⟩ := h.app hk w hn (Qai hm.2) (.inl he)
 refine ⟨⟨e4, e5, h.ents.mono fun e he => he.grows (QeZ _ _ _), h.pend, h.pins⟩, ?_⟩
 rw [Qxt he] at e7
 exact e7
end Go.Proofs
end

section
open Go Go.Am
namespace Go.Proofs
set_option maxRecDepth 20000
variable {d : Dev} {k : Nat}
structure Gl (c : Conf) (n : Int) (r : Nat) (s : St) : Prop where
 gq : Gq c n r s
 lq : Lq s
 nf : ∀ z, z = s.host ∨ z = s.lane → 0 ≤ z → (zAt s.dev z).state ≠ 4
variable {c : Conf} {n : Int} {r : Nat} {s : St} {z : Int}
theorem Gl.gd (h : Gl c n r s) : Gd c n r 0 s := h.gq.gd
theorem Gl.weak {n' : Int} {r' : Nat} (h : Gl c n r s) (h1 : n ≤ n') (h2 : r ≤ r') : Gl c n' r' s := ⟨h.gq.weak h1 h2, h.lq, h.nf⟩
theorem Gl.small (h : Gl c n r s) (hr : r ≤ 1000000) : s.small := h.gq.small hr
theorem Gq.free0 (h : Gq c n r s) : ∀ y ∈ s.free, 0 ≤ y ∧ y < s.dev.zones.length := fun y hy => by
 have h1 := QaC (h.gd.poolOk.data y hy)
 have h2 := h.gd.val.parts.zones
 rw [h.gd.cfg] at h2
 omega
theorem Gq.size (h : Gq c n r s) : s.dev.size = c.size := by rw [h.gd.val.parts.size, h.gd.cfg]
theorem Gl.bump (h : Gl c n r s) (hn : n ≤ 1000000) : Gl c (n + 1) r s.bump := ⟨h.gq.bump hn, ⟨h.lq.dev, h.lq.free, h.lq.ents, h.lq.pend, h.lq.pins⟩, h.nf⟩
theorem Qoj {l : List Int} {y x : Int} (h : x ∈ Qah l y) : x ∈ l := (without_mem.1 h).1
theorem Lk.unfree {ks : List Int} (h : Lk s ks) (z : Int) : Lk (s.unfree z) ks := ⟨h.dev, fun y hy => h.free y (Qoj hy), h.ents, h.pend, h.pins⟩
theorem Qht {d : DiceM} {b v : Int} (hb : 1 ≤ b ∧ b ≤ 1000) (hv : 0 ≤ v ∧ v ≤ 1099511627776) : Qm (recR d b v) = 0 ∧ QbB (recR d b v) = true := by
 have h := d.next_range hb.1 om
 have hs := Qn6 (d.step.next 200)
 unfold recR Qm
 split
 ·dsimp only
  exact ⟨by rw [Qxt (Qxz om), Qxt (Qxz om), Qxt (Qxz ⟨by decide, fun q => by omega, fun _ => rfl⟩)], rfl⟩
 ·dsimp only
  exact ⟨by rw [Qxt (Qxz om), Qxt (Qxz om), Qxt (Qxz ⟨om, fun _ => hs, fun q => by omega⟩)], rfl⟩
theorem Lk.apart {ks : List Int} (h : Lk s ks) (hk : ks.length ≤ 3) (w : Wz s ks z k) {x : ByteArray} (hx : x.size = 40) {i : Nat} (hi : (i : Int) ≠ z) : (Qf s.dev z x).zones.getD i default = s.dev.zones.getD i default := by
 obtain ⟨e1, e2, e3, e4⟩ := h.dev.app hk w.mem w.ge w.lt w.st hx
 rw [e2]
 have := w.ge
 have := w.lt
 dsimp only
 rw [QbA om, Qxu om]
theorem Qxj (h : Gl c n r s) (hz : z = s.host ∨ z = s.lane) (h0 : 0 ≤ z) (w : Wz s [s.host, s.lane] z k) (hk : (k : Int) + 1 < c.size) {x : Rec} (hx : x.block < c.blocks) (hc : Qm x = 0) (hb : QbB x = true) :
  Gl c n r (s.add z x) ∧ Wz (s.add z x) [(s.add z x).host, (s.add z x).lane] z (k + 1) ∧ (s.add z x).host = s.host ∧ (s.add z x).lane = s.lane := by
 have hsz := h.gq.size
 obtain ⟨a1, a2, a3, a4, a5, a6⟩ := h.lq.add (by simp) w (fun y hy => (h.gq.free0 y hy).1) hc hb
 have a2' := a2 om
 refine ⟨⟨h.gq.add z hx, by rw [Lq, a3, a4]; exact a1, fun y hy hy0 => ?_⟩, by rw [a3, a4]; exact a2', a3, a4⟩
 rw [a3, a4] at hy
 by_cases q : y = z
 ·rw [q]; exact a2'.st
 ·rw [a6]
  have := h.lq.apart (by simp) w (Qai hc) (i := y.toNat) om
  unfold zAt
  rw [this]
  exact h.nf y hy hy0
theorem Qn7 {r : Rec} (h : Qm r = 0) : Qm { r with move := min (r.move + 1) 255 } = 0 := by
 obtain ⟨h1, h2, _⟩ := QaY h
 unfold Qm at h ⊢
 dsimp only at h ⊢
 rw [Qxt (Qxz h1)] at h ⊢
 rw [Qxt (Qxz h2)] at h
 rw [Qxt (Qxz om)]
 exact h
theorem Qst {z o : Int} (h : QdD d z o = 0) : Q5 d z o = (zAt d z).sectors.getD o.toNat ByteArray.empty := by unfold Q5; rw [Qxt h]; rfl
theorem Gl.copied (h : Gl c n r s) (hz : z = s.host ∨ z = s.lane) (h0 : 0 ≤ z) {k : Nat} (w : Wz s [s.host, s.lane] z k) (hk : (k : Int) + 1 < c.size) (e : Ent) :
  Gl c n r (s.copied e z) ∧ (∃ j, j ≤ k + 1 ∧ Wz (s.copied e z) [(s.copied e z).host, (s.copied e z).lane] z j) ∧ (s.copied e z).host = s.host ∧ (s.copied e z).lane = s.lane := by
 have hq := h.gq.copied e z
 have hsz := h.gq.size
 unfold St.copied at hq ⊢
 split
 ·rename_i hc
  rw [Qxt hc] at hq
  obtain ⟨c1, c2, c3, c4⟩ := hc
  have hbl : decE (Q5 s.dev e.zone e.offset) = 0 ∧ QbB (decR (Q5 s.dev e.zone e.offset)) = true := by
   unfold QaA at c2
   split at c2
   ·assumption
   ·cases c2
  have hb2 : QaA (Q5 s.dev e.zone e.offset) = (decR (Q5 s.dev e.zone e.offset), true) := by unfold QaA; rw [Qxt hbl]
  rw [hb2] at hq c3 c4 ⊢
  have hck : Qm (decR (Q5 s.dev e.zone e.offset)) = 0 := by
   unfold QbV at c3
   split at c3
   ·rename_i q; exact q.1
   ·cases c3
  have hcp : QbV (decR (Q5 s.dev e.zone e.offset)) = ({ (decR (Q5 s.dev e.zone e.offset)) with move := min ((decR (Q5 s.dev e.zone e.offset)).move + 1) 255 }, true) := by unfold QbV; rw [Qxt ⟨hck, hbl.2⟩]
  dsimp only at hq c3 c4 ⊢
  rw [hcp] at hq c4 ⊢
  dsimp only at hq c4 ⊢
  generalize hR : ({ (decR (Q5 s.dev e.zone e.offset)) with move := min ((decR (Q5 s.dev e.zone e.offset)).move + 1) 255 } : Rec) = R at *
  have hRc : Qm R = 0 := by rw [← hR]; exact Qn7 hck
  have hRb : QbB R = true := by rw [← hR]; exact hbl.2
  have hRk : R.kind = (decR (Q5 s.dev e.zone e.offset)).kind ∧ R.block = (decR (Q5 s.dev e.zone e.offset)).block ∧ R.version = (decR (Q5 s.dev e.zone e.offset)).version := by rw [← hR]; exact ⟨rfl, rfl, rfl⟩
  obtain ⟨e1, e2, e3, e4, e5, e6, e7, e8⟩ := h.lq.app (by simp) w (fun y hy => (h.gq.free0 y hy).1) (Qai hRc) (.inr (QjM hRc hRb).1)
  have hlt := w.lt
  have hw : ∀ (m : List (List Ent)) (l : List Int), Wz { s with dev := Qf s.dev z (encR R), map := m, live := l } [s.host, s.lane] z (k + 1) := fun m l =>
   ⟨w.mem, w.ge, by show z < ((Qf s.dev z (encR R)).zones.length : Int); rw [Qa7]; exact hlt, w.nfree, by show (zAt (Qf s.dev z (encR R)) z).sectors.length = k + 1; rw [e6, QxL, w.len]; rfl, by show (zAt (Qf s.dev z (encR R)) z).state ≠ 4; rw [e7, Qxu om]; decide⟩
  refine ⟨⟨hq, ⟨e4, e5, ?_, h.lq.pend, h.lq.pins⟩, fun y hy hy0 => ?_⟩, ⟨k + 1, QxB _, hw _ _⟩, by trivial, by trivial⟩
  ·refine Qxa (h.lq.ents.mono fun x hx => hx.grows (QeZ s.dev z (encR R))) fun x hx x1 x2 hk1 => ?_
   obtain ⟨q, q1, q2, q3, q4, q5, q6, q7⟩ := hx hk1
   have hrd : Q5 s.dev e.zone e.offset = encR q := by
    rw [Qst c1]
    obtain ⟨t, ht⟩ := (QeZ s.dev z (encR R)).secs e.zone.toNat
    have hlen : e.offset.toNat < (zAt s.dev e.zone).sectors.length := by
     unfold QdD at c1
     split at c1
     ·split at c1
      ·rename_i w1
       have := Qx4 w1
       show e.offset.toNat < (s.dev.zones.getD e.zone.toNat default).sectors.length
       omega
      ·cases c1
     ·rename_i w1; exact absurd c1 w1
    rw [x1, x2] at q7
    unfold zAt at q7 hlen ⊢
    rw [ht] at q7
    rw [← q7]
    simp only [List.getD] at hlen ⊢
    rw [QxS hlen]
   have hdq := (QoD q1).2
   rw [hrd, hdq] at hRk
   refine ⟨R, hRc, by rw [hRk.1]; exact q2, by rw [hRk.2.1]; exact q3, by rw [hRk.2.2]; exact q4, ⟨w.ge, by show z < ((Qf s.dev z (encR R)).zones.length : Int); rw [Qa7]; exact hlt⟩, ?_, ?_⟩
   ·show 0 ≤ QA s.dev z (encR R) ∧ QA s.dev z (encR R) < ((zAt (Qf s.dev z (encR R)) z).sectors.length : Int)
    rw [e2, e6, QxL, w.len]
    simp only [QxR, Qx5]
    omega
   ·show (zAt (Qf s.dev z (encR R)) z).sectors.getD (QA s.dev z (encR R)).toNat ByteArray.empty = encR R
    rw [e2, e6]
    simp only [List.getD]
    rw [Qxy, QxY (by rw [w.len]; exact QxB _), w.len, Nat.sub_self]
    rfl
  ·by_cases q : y = z
   ·rw [q]; exact (hw s.map s.live).st
   ·have := h.lq.apart (by simp) w (Qai hRc) (i := y.toNat) om
    show (zAt (Qf s.dev z (encR R)) y).state ≠ 4
    unfold zAt
    rw [this]
    exact h.nf y hy hy0
 ·exact ⟨h, ⟨k, om, w⟩, rfl, rfl⟩
theorem Gl.setHost (h : Gl c n r s) (hf : 0 < s.free.length) (hh : s.host = -1) : Gl c n r { (s.unfree (s.free.getD 0 default)) with host := s.free.getD 0 default } ∧ Wz { (s.unfree (s.free.getD 0 default)) with host := s.free.getD 0 default } [s.free.getD 0 default, s.lane] (s.free.getD 0 default) 0 := by
 have hm := Go.Proofs.free0 hf
 have hz := h.gq.free0 _ hm
 have hs := h.lq.free _ hm
 have hl : Lk { (s.unfree (s.free.getD 0 default)) with host := s.free.getD 0 default } [s.free.getD 0 default, s.lane] :=
  ⟨h.lq.dev.mono fun i _ _ hi => by
   rcases Qyf.1 hi with q | q
   ·omega
   ·exact Qyi _ q, (h.lq.unfree (s.free.getD 0 default)).free, h.lq.ents, h.lq.pend, h.lq.pins⟩
 have hlen := h.lq.dev.empty (i := (s.free.getD 0 default).toNat) om hs
 refine ⟨⟨h.gq.setHost hf, hl, fun y hy hy0 => ?_⟩, ⟨by simp, hz.1, hz.2, fun q => (without_mem.1 q).2 rfl, hlen, by show (zAt s.dev _).state ≠ 4; rw [hs]; decide⟩⟩
 rcases hy with rfl | rfl
 ·show (zAt s.dev _).state ≠ 4; rw [hs]; decide
 ·exact h.nf _ (.inr rfl) hy0
theorem Gl.setLane (h : Gl c n r s) (hf : 0 < s.free.length) (hh : s.lane = -1) : Gl c n r { (s.unfree (s.free.getD 0 default)) with lane := s.free.getD 0 default } ∧ Wz { (s.unfree (s.free.getD 0 default)) with lane := s.free.getD 0 default } [s.host, s.free.getD 0 default] (s.free.getD 0 default) 0 := by
 have hm := Go.Proofs.free0 hf
 have hz := h.gq.free0 _ hm
 have hs := h.lq.free _ hm
 have hl : Lk { (s.unfree (s.free.getD 0 default)) with lane := s.free.getD 0 default } [s.host, s.free.getD 0 default] :=
  ⟨h.lq.dev.mono fun i _ _ hi => by
   rcases Qyf.1 hi with q | q
   ·rw [q]; exact Qys ..
   ·have := Qyy.1 q; omega, (h.lq.unfree (s.free.getD 0 default)).free, h.lq.ents, h.lq.pend, h.lq.pins⟩
 have hlen := h.lq.dev.empty (i := (s.free.getD 0 default).toNat) om hs
 refine ⟨⟨h.gq.setLane hf, hl, fun y hy hy0 => ?_⟩, ⟨by simp, hz.1, hz.2, fun q => (without_mem.1 q).2 rfl, hlen, by show (zAt s.dev _).state ≠ 4; rw [hs]; decide⟩⟩
 rcases hy with rfl | rfl
 ·exact h.nf _ (.inl rfl) hy0
 ·show (zAt s.dev _).state ≠ 4; rw [hs]; decide
theorem Gl.retire (h : Gl c n r s) (i : Int) : Gl c n (r + 1) { s with rets := (Qas s.glob s.pins s.rets i).1 } := ⟨h.gq.retire i, ⟨h.lq.dev, h.lq.free, h.lq.ents, h.lq.pend, h.lq.pins⟩, h.nf⟩
theorem Gl.adv (h : Gl c n r s) : Gl c n r { s with glob := (advM s.glob s.pins s.rets).1 } := ⟨h.gq.adv, ⟨h.lq.dev, h.lq.free, h.lq.ents, h.lq.pend, h.lq.pins⟩, h.nf⟩
theorem Gl.flags (h : Gl c n r s) (a b : Bool) : Gl c n r { s with want := a, closed := b } := ⟨h.gq.flags a b, ⟨h.lq.dev, h.lq.free, h.lq.ents, h.lq.pend, h.lq.pins⟩, h.nf⟩
theorem Ql5 (h : d.ok) (z : Int) : (zAt (Qbo d) z).state = (zAt d z).state ∧ (zAt (Qbo d) z).sectors = (zAt d z).sectors := by
 unfold Qbo
 rw [Qxt (check_ok.2 h)]
 unfold zAt
 dsimp only
 rw [Qms]
 exact ⟨rfl, rfl⟩
theorem Gl.sync (h : Gl c n r s) : Gl c n r { s with dev := Qbo s.dev } :=
 ⟨h.gq.sync, ⟨h.lq.dev.sync, fun z hz => by rw [(Ql5 h.lq.dev.ok z).1]; exact h.lq.free z hz, h.lq.ents.mono fun e he => he.sync h.lq.dev.ok, h.lq.pend, h.lq.pins⟩, fun z hz h0 => by
  show (zAt (Qbo s.dev) z).state ≠ 4
  rw [(Ql5 h.lq.dev.ok z).1]; exact h.nf z hz h0⟩
end Go.Proofs
end
