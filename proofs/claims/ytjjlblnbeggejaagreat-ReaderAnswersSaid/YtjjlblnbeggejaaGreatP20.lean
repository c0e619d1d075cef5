/- Contracts, lemmas; no condition. -/
import Derived.Test.YtjjlblnbeggejaaGreatP15
import Derived.Test.YtjjlblnbeggejaaGreatP19
import Derived.Test.YtjjlblnbeggejaaGreatP12
import Derived.Test.YtjjlblnbeggejaaGreatA26
import Derived.Test.YtjjlblnbeggejaaGreatP10
import Derived.Test.YtjjlblnbeggejaaGreatEnv
set_option linter.all false
section
open Go Go.Am
namespace Go.Proofs
set_option maxRecDepth 20000
def QtT (r : Rng) (x : Req) : Rng × Int :=
 if QbH r = true then
  if (r.items.length : Int) = r.depth then (r, 13)
  else if x.serial < 0 ∨ 0 < r.items.length ∧ x.serial ≤ (r.items.getD (r.items.length - 1) default).serial then (r, 17)
  else (⟨r.depth, r.items ++ [x]⟩, 0)
 else (r, 6)
def Qsx (r : Rng) : Rng × Req × Bool :=
 if QbH r = true ∧ 0 < r.items.length then (⟨r.depth, r.items.drop 1⟩, r.items.getD 0 default, true) else (r, default, false)
def St.addEv (s : St) (e : Evt) : St := { s with evs := s.evs ++ [e] }
def St.setRing (s : St) (q : Nat) (r : Rng) : St := { s with rings := s.rings.set q r }
def St.setWork (s : St) (q : Nat) (w : Wrk) : St := { s with works := s.works.set q w }
def QiD (back : Bool) (q : Int) (r : Req) (err : Int) (d : ByteArray) : Evt := ⟨back, q, r.serial, r.kind, r.block, r.data, err, d⟩
def QoA (s : St) (q : Int) (err : Int) (d : ByteArray) : St × Bool :=
 if QaI s = true ∧ 0 ≤ q ∧ q < s.works.length ∧ (s.works.getD q.toNat default).state ≠ 0 then
  ((s.addEv (QiD true q (s.works.getD q.toNat default).req err d)).setWork q.toNat default, true)
 else (s, false)
def Qo4 (s : St) (q : Int) (x : Req) : St × Int :=
 if QaI s = true then
  if 0 ≤ q ∧ q < s.rings.length then
   if 398 < s.evs.length + (QtE s.evs).length ∨ 1099511627776 ≤ s.serial then (s, 19)
   else
    let y : Req := { x with serial := s.serial }
    if s.closed = true then
     (({ s with serial := s.serial + 1 }.addEv (QiD false q y 0 ByteArray.empty)).addEv (QiD true q y 12 ByteArray.empty), 0)
    else
     let r := QtT (s.rings.getD q.toNat default) y
     if r.2 ≠ 0 then (s, r.2)
     else ({ (s.setRing q.toNat r.1) with serial := s.serial + 1 }.addEv (QiD false q y 0 ByteArray.empty), 0)
  else (s, 1)
 else (s, 6)
def Qug (k : Int) : Int := if k = 1 then 1 else if k = 4 then 10 else 5
def QrG (own : Bool) (s : St) (q : Int) : St × Bool :=
 if QaI s = true ∧ 0 ≤ q ∧ q < s.works.length ∧ (s.works.getD q.toNat default).state = 0 then
  let t := Qsx (s.rings.getD q.toNat default)
  if t.2.2 = true then
   let s1 := s.setRing q.toNat t.1
   if cmdE s.cfg t.2.1 = 0 then (s1.setWork q.toNat ⟨Qug t.2.1.kind, t.2.1, default, ByteArray.empty⟩, true)
   else ((if own = true then s1.setWork q.toNat default else s1).addEv (QiD true q t.2.1 (cmdE s.cfg t.2.1) ByteArray.empty), true)
  else (s, false)
 else (s, false)
def Qid (w : Wrk) : Bool := decide (w.state = 7 ∨ w.state = 8)
def Qqn (n : Int) (l : List Wrk) : Nat → Int
 | 0 => n
 | k + 1 => if Qid (l.getD k default) = true ∧ ((l.take k).any Qid = false ∨ (l.getD k default).ent.version < Qqn n l k) then (l.getD k default).ent.version else Qqn n l k
theorem size_set {l : List Wrk} {k : Nat} {w : Wrk} : (l.set k w).length = l.length := QxT
end Go.Proofs
end

section
open Go Go.Am
namespace Go.Am
theorem CallE.reads {P : Program} {f : FuncId} {args args' : List S} {r : S} {H : List O} {k : S → List O → Prop} (hb : HasBody P f) (hp : PSpec P f args' r) (ha : BwA H args args') (hr : r.flat = true) (hk : k r H) : CallE P f args H k :=
 ⟨r, H, hb, CSpec.reads hp ha hr ⟨rfl, rfl⟩, fun _ _ _ h => h, hk⟩
end Go.Am
namespace Go.Proofs
set_option maxRecDepth 20000
theorem BwL.own {H : List O} {s : St} {a b c e1 e2 e3 : Nat} {x1 x2 x3 : Bool} (ha : getL H a = some (.arr e1 2 s.rings.length (rngG s.rings))) (hb : getL H b = some (.arr e2 12 s.works.length (wrkG s.works))) (hc : getL H c = some (.arr e3 8 s.evs.length (evG s.evs))) :
  BwL H (s.cellsW (.sl a 2 s.rings.length s.rings.length x1) (.sl b 12 s.works.length s.works.length x2) (.sl c 8 s.evs.length s.evs.length x3)) s.cells := by
 have ra : Bw H (.sl a 2 s.rings.length s.rings.length x1) (rngC s.rings) := Bw.sl ha rfl (fun i _ j _ => Bw.same (Qau _ _)) (fun e => by cases e)
 have rb : Bw H (.sl b 12 s.works.length s.works.length x2) (wrkC s.works) := Bw.sl hb rfl (fun i _ j _ => Bw.same (QaW _ _)) (fun e => by cases e)
 have rc : Bw H (.sl c 8 s.evs.length s.evs.length x3) (evC s.evs) := Bw.sl hc rfl (fun i _ j _ => Bw.same (Qd5 _ _)) (fun e => by cases e)
 unfold St.cells St.cellsW St.cellsX St.cellsZ
 repeat' (first | exact BwL.nil | refine BwL.cons ?_ ?_ | exact ra | exact rb | exact rc | exact Bw.same rfl)
theorem Qvz (s : St) (hs : s.small) (l : List Ent) (hall : Qx s.map = true → AllS s.map l) : CS 242 [.a s.cells] [] fun r H => r = .t [.inr (s.own 0 1 2), .inl (.bool (QaI s))] ∧ H = s.objs := by
 refine CSpec.rm ?_
 refine ov hΓ Tryz.func242 13 0 [.cell 2 309, .tmp 3] Tryz.ntmps242 Tryz.results242 ?_
 refine Go0 ?_
 refine CallN.autoQ [] Qqu (QpN s hs) ?_; conv=>whnf
 refine Go0 ?_
 refine Qxp [2, 4] [] [.vr s.cells, .vr (default : St).cells, .arr 164 2 s.rings.length (rngG s.rings), .arr 94 12 s.works.length (wrkG s.works), .arr 100 8 s.evs.length (evG s.evs), .vr (s.own 2 3 4)] (Mv.mkW ?_ ?_ leN) ?_ <;> (repeat' (first | exact WA.nil | refine WA.cons rfl ?_ ?_ | exact WB.nil | refine WB.cons ?_ ?_ | exact WT.nil | refine WT.cons ?_ ?_ | exact WH.nil | refine WH.cons ?_ ?_ | exact WR.nil | refine WR.cons rfl ?_ ?_ | refine WO.vr ?_ | exact WO.dead | exact Qwm | refine Qwq ?_ | exact Qv9 (fun i j => Qdb _ _ _) | refine Qwf ?_ | exact WS.u | refine WS.c ?_ | refine WS.a ?_ | refine WS.t ?_ | exact WL.nil | refine WL.cons ?_ ?_ | exact WTL.nil | refine WTL.consC ?_ ?_ | refine WTL.consL ?_ ?_ | exact WC.nils | exact WC.nil rfl | exact WC.nilp | refine Qwo | exact WC.ptr rfl leN | exact WC.mpr rfl leN | refine Qv5 | refine Qwg | refine WC.int ?_ | refine Qwa | refine WC.bool ?_ | refine Qwd | refine WC.str ?_ | exact WC.imm rfl))
 ·exact fun i _ j _ => Qws (Qau _ _)
 ·exact fun i _ j _ => Qws (QaW _ _)
 ·exact fun i _ j _ => Qws (Qd5 _ _)
 refine Qvd hΓ hMix [155] [(0, 3)] (by kernel_rfl) ?_; conv=>whnf
 refine Go0 ?_
 refine CallE.reads Qlq (Qlr s hs l hall) (BwA.cons (BwS.a (BwL.own (a := 2) (b := 3) (c := 4) rfl rfl rfl)) BwA.nil) rfl ?_
 refine Go0 ?_
 refine ⟨_, _, ?_, rfl, rfl⟩
 refine Qwe [2, 3, 4] (by decide) ?_ ?_ <;> (repeat' (first | exact WA.nil | refine WA.cons rfl ?_ ?_ | exact WB.nil | refine WB.cons ?_ ?_ | exact WT.nil | refine WT.cons ?_ ?_ | exact WH.nil | refine WH.cons ?_ ?_ | exact WR.nil | refine WR.cons rfl ?_ ?_ | refine WO.vr ?_ | exact WO.dead | exact Qwm | refine Qwq ?_ | exact Qv9 (fun i j => Qdb _ _ _) | refine Qwf ?_ | exact WS.u | refine WS.c ?_ | refine WS.a ?_ | refine WS.t ?_ | exact WL.nil | refine WL.cons ?_ ?_ | exact WTL.nil | refine WTL.consC ?_ ?_ | refine WTL.consL ?_ ?_ | exact WC.nils | exact WC.nil rfl | exact WC.nilp | refine Qwo | exact WC.ptr rfl leN | exact WC.mpr rfl leN | refine Qv5 | refine Qwg | refine WC.int ?_ | refine Qwa | refine WC.bool ?_ | refine Qwd | refine WC.str ?_ | exact WC.imm rfl))
 ·exact fun i _ j _ => WC.imm (Qau _ _)
 ·exact fun i _ j _ => WC.imm (QaW _ _)
 ·exact fun i _ j _ => WC.imm (Qd5 _ _)
theorem QvH : HB 242 := hB Tryz.func242
theorem Qvv {l : List Evt} {x : Evt} {t : List C} {n i j : Nat} (hn : n = l.length) (hi : i < l.length + 1) (hj : j < 8) : appG (evG l) n (QaE 8 (.bool x.ret :: .int .i64 x.queue :: .int .i64 x.serial :: .int .i64 x.kind :: .int .i64 x.block :: .str x.data :: .int .i64 x.err :: .str x.rdata :: t)) i j = evG (l ++ [x]) i j :=
 QeY (f := Evt.cell) hn (fun j hj => by
  match j, hj with
  | 0, _ => rfl
  | 1, _ => rfl
  | 2, _ => rfl
  | 3, _ => rfl
  | 4, _ => rfl
  | 5, _ => rfl
  | 6, _ => rfl
  | 7, _ => rfl) hi hj
theorem Qvx (s : St) (back : Bool) (q : Int) (r : Req) (err : Int) (d : ByteArray) (hs : s.evs.length ≤ 1000000) : CS 243 [.c (.ptr 0 0), .c (.bool back), .c (.int .i64 q), .a r.cells, .a [.int .i64 err, .str d]] (.vr (s.own 1 2 3) :: s.objs) fun x H => x = .t [] ∧ H = .vr ((s.addEv (QiD back q r err d)).own 1 2 3) :: (s.addEv (QiD back q r err d)).objs := by
 refine CSpec.rm ?_
 refine ov hΓ Tryz.func243 31 4 [] Tryz.ntmps243 Tryz.results243 ?_
 refine Go0 ?_
 refine Qvd hΓ hMix [] [(0, 16)] (by kernel_rfl) ?_; conv=>whnf
 refine Go0 ?_
 refine ⟨_, _, ?_, rfl, rfl⟩
 have hl : (s.addEv (QiD back q r err d)).evs.length = s.evs.length + 1 := by simp [St.addEv]
 unfold St.own St.objs
 rw [hl]
 refine Qxr ?_ ?_ ?_
 ·exact fun i _ j _ => WC.imm (Qau _ _)
 ·exact fun i _ j _ => WC.imm (QaW _ _)
 ·exact fun i hi j hj => WC.eq (Qvv (x := QiD back q r err d) rfl hi hj) (Qd5 _ _)
theorem Qvw : HB 243 := hB Tryz.func243
end Go.Proofs
end

section
open Go Go.Am
namespace Go.Proofs
set_option maxRecDepth 20000
variable {H : List O} {l : List Wrk} {q k i j : Nat} {ys : List C} {z : Int} {α : Type}
instance : PlainF Evt.cell := ⟨fun e j => by unfold Evt.cell; split <;> rfl⟩
instance : PlainF Ent.cell := ⟨fun e j => by unfold Ent.cell; split <;> rfl⟩
instance : PlainF Ret.cell := ⟨fun e j => by unfold Ret.cell; split <;> rfl⟩
instance : PlainF Req.cell := ⟨fun e j => by unfold Req.cell; split <;> rfl⟩
instance : PlainF Rng.cell := ⟨fun e j => by unfold Rng.cell; split <;> rfl⟩
instance : PlainF Wrk.cell := ⟨fun e j => by unfold Wrk.cell; split <;> rfl⟩
instance : PlainF Qeu := ⟨fun e j => by unfold Qeu; split <;> rfl⟩
instance : PlainF Zone.cell := ⟨fun e j => by unfold Zone.cell; split <;> rfl⟩
instance : PlainF (fun (l : List Ent) (_ : Nat) => Qap l) := ⟨fun e j => rfl⟩
instance {q : IntKind} : PlainF (intC q) := ⟨fun e j => rfl⟩
theorem FwL.own {s : St} {a b c e1 e2 e3 : Nat} {x1 x2 x3 : Bool} (ha : getL H a = some (.arr e1 2 s.rings.length (rngG s.rings))) (hb : getL H b = some (.arr e2 12 s.works.length (wrkG s.works))) (hc : getL H c = some (.arr e3 8 s.evs.length (evG s.evs))) :
  FwL H (s.cellsW (.sl a 2 s.rings.length s.rings.length x1) (.sl b 12 s.works.length s.works.length x2) (.sl c 8 s.evs.length s.evs.length x3)) s.cells := by
 have ra : Fw H (.sl a 2 s.rings.length s.rings.length x1) (rngC s.rings) := Fw.sl ha rfl (fun i _ j _ => Fw.same (Qau _ _)) (fun e => by cases e)
 have rb : Fw H (.sl b 12 s.works.length s.works.length x2) (wrkC s.works) := Fw.sl hb rfl (fun i _ j _ => Fw.same (QaW _ _)) (fun e => by cases e)
 have rc : Fw H (.sl c 8 s.evs.length s.evs.length x3) (evC s.evs) := Fw.sl hc rfl (fun i _ j _ => Fw.same (Qd5 _ _)) (fun e => by cases e)
 unfold St.cells St.cellsW St.cellsX St.cellsZ
 repeat' (first | exact FwL.nil | refine FwL.cons ?_ ?_ | exact ra | exact rb | exact rc | exact Fw.same rfl)
theorem Qxb (s : St) {a b c e1 e2 e3 na nb nc : Nat} {x1 x2 x3 : Bool} {ga gb gc : Nat → Nat → C} (ha : getL H a = some (.arr e1 2 na ga)) (hb : getL H b = some (.arr e2 12 nb gb)) (hc : getL H c = some (.arr e3 8 nc gc))
  (la : na = s.rings.length) (lb : nb = s.works.length) (lc : nc = s.evs.length)
  (fa : ∀ i, i < na → ∀ j, j < 2 → ga i j = rngG s.rings i j) (fb : ∀ i, i < nb → ∀ j, j < 12 → gb i j = wrkG s.works i j) (fc : ∀ i, i < nc → ∀ j, j < 8 → gc i j = evG s.evs i j) :
  FwL H (s.cellsW (.sl a 2 na na x1) (.sl b 12 nb nb x2) (.sl c 8 nc nc x3)) s.cells := by
 subst la
 subst lb
 subst lc
 have ra : Fw H (.sl a 2 s.rings.length s.rings.length x1) (rngC s.rings) := Fw.sl ha rfl (fun i hi j hj => by rw [fa i hi j hj]; exact Fw.same (Qau _ _)) (fun e => by cases e)
 have rb : Fw H (.sl b 12 s.works.length s.works.length x2) (wrkC s.works) := Fw.sl hb rfl (fun i hi j hj => by rw [fb i hi j hj]; exact Fw.same (QaW _ _)) (fun e => by cases e)
 have rc : Fw H (.sl c 8 s.evs.length s.evs.length x3) (evC s.evs) := Fw.sl hc rfl (fun i hi j hj => by rw [fc i hi j hj]; exact Fw.same (Qd5 _ _)) (fun e => by cases e)
 unfold St.cells St.cellsW St.cellsX St.cellsZ
 repeat' (first | exact FwL.nil | refine FwL.cons ?_ ?_ | exact ra | exact rb | exact rc | exact Fw.same rfl)
theorem Qu8 {w : Wrk} (hq : q < l.length) (hy : ys = w.cells) (i j : Nat) (hj : j < 12) : updG (wrkG l) q 0 ys i j = wrkG (l.set q w) i j := by
 subst hy
 refine QeA hq (es := 12) (fun j hj => ?_) i j hj
 match j, hj with
 | 0, _ => rfl
 | 1, _ => rfl
 | 2, _ => rfl
 | 3, _ => rfl
 | 4, _ => rfl
 | 5, _ => rfl
 | 6, _ => rfl
 | 7, _ => rfl
 | 8, _ => rfl
 | 9, _ => rfl
 | 10, _ => rfl
 | 11, _ => rfl
theorem Qae {l : List Rng} {w : Rng} (hq : q < l.length) (hy : ys = w.cells) (i j : Nat) (hj : j < 2) : updG (rngG l) q 0 ys i j = rngG (l.set q w) i j := by
 subst hy
 refine QeA hq (es := 2) (fun j hj => ?_) i j hj
 match j, hj with
 | 0, _ => rfl
 | 1, _ => rfl
set_option maxHeartbeats 4000000 in
theorem QkZ (s : St) (hs : s.small) (l : List Ent) (hall : Qx s.map = true → AllS s.map l) (q err : Int) (d : ByteArray) : PS 176 [.a s.cells, .c (.int .i64 q), .a [.int .i64 err, .str d]] (.t [.inr (QoA s q err d).1.cells, .inl (.bool (QoA s q err d).2)]) := by
 refine PSpec.rm ?_
 refine ov0 hΓ Tryz.func176 65 0 [.cell 6 58, .tmp 7] Tryz.ntmps176 Tryz.results176 ?_
 refine CallN.autoI [] QvH (Qvz s hs l hall) plh (Go0 ?_)
 refine Frc.mk (.c (.int .i64 (s.works.getD q.toNat default).state)) rfl (Go0 ?_)
 by_cases hc : QaI s = true ∧ 0 ≤ q ∧ q < s.works.length ∧ (s.works.getD q.toNat default).state ≠ 0
 ·have hr : QoA s q err d = ((s.addEv (QiD true q (s.works.getD q.toNat default).req err d)).setWork q.toNat default, true) := Qxt hc
  have hv := hc.1
  refine Br.no (QxG.2 fun ebye => by simp [-List.getD_eq_getElem?_getD, -Int.default_eq_zero, hv] at ebye <;> grind) ?_; conv=>whnf
  refine Go0 ?_
  refine Qvd hΓ hMix [243, 8589934835] [] (by kernel_rfl) (Go0 ?_)
  refine Frc.mk (.a (s.works.getD q.toNat default).req.cells) rfl (Go0 ?_)
  refine CallF.autoI [6,3,4,5] Qvw (Qvx s true q (s.works.getD q.toNat default).req err d hs.evs) plh ?_; conv=>whnf
  have hw : q < (s.addEv (QiD true q (s.works.getD q.toNat default).req err d)).works.length := hc.2.2.1
  refine Go0 ?_
  rw [hr]
  refine QvC (FwT.consL (Qxb ((s.addEv (QiD true q (s.works.getD q.toNat default).req err d)).setWork q.toNat default) (a := 3) (b := 4) (c := 5) rfl rfl rfl ?_ ?_ ?_ ?_ ?_ ?_) (FwT.consC (Fw.same rfl) FwT.nil))
  ·rfl
  ·exact size_set.symm
  ·rfl
  ·exact fun _ _ _ _ => rfl
  ·exact fun i _ j hj => Qu8 (q := q.toNat) (w := default) (by have h1 := hc.2.1; have h2 := hc.2.2.1; show q.toNat < s.works.length; omega) rfl i j hj
  ·exact fun _ _ _ _ => rfl
 ·have hr : QoA s q err d = (s, false) := Qxu hc
  refine Br.yes (QxC fun ebye => hc (by simp [-List.getD_eq_getElem?_getD, -Int.default_eq_zero] at ebye <;> grind)) ?_; conv=>whnf
  refine Go0 ?_
  rw [hr]
  refine QvC (FwT.consL (FwL.own (a := 3) (b := 4) (c := 5) rfl rfl rfl) (FwT.consC (Fw.same rfl) FwT.nil))
theorem Qly : HB 176 := hB Tryz.func176
def QtB (s : St) : List Int := if QaI s = true then QtE s.evs else []
def cutN (l : List Wrk) (n : Int) (k : Nat) : Int := if (l.take k).any Qid = true then Qqn n l k else 0
def QbO (r : List Ret) (z : Int) : Bool := r.any fun x => decide (x.zone = z)
theorem QaC {c : Conf} (h : Qam c z = true) : 0 ≤ z ∧ z < c.zones ∧ Qby c = true := by
 unfold Qam at h
 rw [Qxw] at h
 have hr := (QR h.1).1
 have := Qak hr
 exact ⟨om, h.2.2, hr⟩
theorem Qgj {l : List Ret} (hk : k < l.length) : QbO (l.take (k + 1)) z = (QbO (l.take k) z || decide ((l.getD k default).zone = z)) := by
 unfold QbO
 rw [Qb9 l hk, List.any_append]
 simp
theorem Qu6 {l : List Req} {x : Req} {t : List C} {n : Nat} (hn : n = l.length) (hi : i < l.length + 1) (hj : j < 4) : appG (reqG l) n (QaE 4 (.int .i64 x.serial :: .int .i64 x.kind :: .int .i64 x.block :: .str x.data :: t)) i j = reqG (l ++ [x]) i j :=
 QeY (f := Req.cell) hn (fun j hj => by
  match j, hj with
  | 0, _ => rfl
  | 1, _ => rfl
  | 2, _ => rfl
  | 3, _ => rfl) hi hj
theorem rowG_drop [Inhabited α] {f : α → Nat → C} {l : List α} : rowG f (l.drop k) i j = rowG f l (k + i) j := by
 simp only [rowG, List.getD, QyE]
theorem Qqg {g g' : Nat → Nat → C} {j0 : Nat} (h : g i j = g' i j) : updG g k j0 ys i j = updG g' k j0 ys i j := by
 unfold updG
 rw [h]
theorem Qi6 {st : Int} (hq : q < l.length) (i j : Nat) (hj : j < 12) : updG (wrkG l) q 0 [.int .i64 st] i j = wrkG (l.set q { l.getD q default with state := st }) i j := by
 refine QeA hq (es := 12) (fun j hj => ?_) i j hj
 match j, hj with
 | 0, _ => rfl
 | 1, _ => rfl
 | 2, _ => rfl
 | 3, _ => rfl
 | 4, _ => rfl
 | 5, _ => rfl
 | 6, _ => rfl
 | 7, _ => rfl
 | 8, _ => rfl
 | 9, _ => rfl
 | 10, _ => rfl
 | 11, _ => rfl
theorem QsG {l : List α} {x d : α} (hq : q < l.length) : (l.set q x).getD q d = x := by
 simp [List.getD, hq]
end Go.Proofs
end

section
namespace Go.Am
variable {n : Int} {k : Nat}
def modI (x n : Int) : Int := if n < 1 then 0 else (IntKind.i64.wrap (x.tmod n + n)).tmod n
theorem QpU {x : Int} (h : 1 ≤ n) (h' : n ≤ 4611686018427387904) : 0 ≤ modI x n ∧ modI x n < n := by
 unfold modI
 rw [Qxu om]
 have h1 := Int.tmod_lt_of_pos x (by omega : 0 < n)
 have h2 : -n < x.tmod n := by
  have := Int.neg_tmod x n
  have := Int.tmod_lt_of_pos (-x) (by omega : 0 < n)
  omega
 rw [Qa _ om om]
 exact ⟨Int.tmod_nonneg _ om, Int.tmod_lt_of_pos _ om⟩
theorem Qr1 {x : Int} (h : n < 1) : modI x n = 0 := Qxt h
structure DiceM where
 l : List Int
 at_ : Nat
def DiceM.next (d : DiceM) (n : Int) : Int := if d.l.length ≤ d.at_ then 0 else modI (d.l.getD d.at_ 0) n
def DiceM.step (d : DiceM) : DiceM := if d.l.length ≤ d.at_ then d else ⟨d.l, d.at_ + 1⟩
def DiceM.cells (d : DiceM) : List C := [Qh d.l, .int .i64 d.at_]
structure DiceM.ok (d : DiceM) : Prop where
 le : d.at_ ≤ d.l.length
 len : d.l.length ≤ 10000000
theorem DiceM.ok.step {d : DiceM} (h : d.ok) : d.step.ok := by
 unfold DiceM.step
 split
 ·exact h
 ·exact ⟨by dsimp only; omega, h.len⟩
theorem DiceM.next_range (d : DiceM) (h : 1 ≤ n) (h' : n ≤ 4611686018427387904) : 0 ≤ d.next n ∧ d.next n < n := by
 unfold DiceM.next
 split
 ·omega
 ·exact QpU h h'
def volI (z : Zone) : Int := if z.durable < z.sectors.length then (z.sectors.length : Int) - max z.durable 0 else 0
def volL (l : List Zone) : List Int := l.map volI
@[simp] theorem volL_len (l : List Zone) : (volL l).length = l.length := by simp [volL]
def tabL {α : Type} (f : Nat → α) (n : Nat) : List α := (List.range n).map f
section
variable {α : Type} {f : Nat → α}
@[simp] theorem tabL_len (n : Nat) : (tabL f n).length = n := by simp [tabL]
@[simp] theorem tabL_zero : tabL f 0 = [] := rfl
theorem Qrs [Inhabited α] {n i : Nat} (h : i < n) : (tabL f n).getD i default = f i := by simp [tabL, List.getD, h]
end
def QcF (z : Zone) : Zone := { z with durable := z.sectors.length }
def Qbo (d : Dev) : Dev := if check d = 0 then { d with zones := d.zones.map QcF } else dev0
theorem Qmc {α β : Type} [Inhabited α] (f : α → β) (l : List α) : l.map f = tabL (fun i => f (l.getD i default)) l.length := by
 apply List.ext_getElem
 ·simp
 ·intro i h1 h2
  simp [tabL, List.getD, (by simpa using h1 : i < l.length)]
def updI (f : Nat → Zone → Zone) (l : List Zone) (k : Nat) : List Zone := tabL (fun i => if i < k then f i (l.getD i default) else l.getD i default) l.length
def updL (f : Zone → Zone) (l : List Zone) (k : Nat) : List Zone := updI (fun _ => f) l k
variable {f : Nat → Zone → Zone} {l : List Zone}
@[simp] theorem updI_len (k : Nat) : (updI f l k).length = l.length := by simp [updI]
@[simp] theorem updL_len {f : Zone → Zone} (k : Nat) : (updL f l k).length = l.length := by simp [updL]
theorem QtQ : tabL (fun i => l.getD i default) l.length = l := by
 rw [← Qmc (fun z => z) l]; simp
theorem Qjy {α : Type} {f g : Nat → α} {n : Nat} (h : ∀ i, i < n → f i = g i) : tabL f n = tabL g n := by
 unfold tabL
 exact List.map_congr_left fun i hi => h i (by simpa using hi)
@[simp] theorem updI_zero : updI f l 0 = l := by
 conv => rhs; rw [← QtQ (l := l)]
 exact Qjy fun i _ => by simp
@[simp] theorem updL_zero {f : Zone → Zone} : updL f l 0 = l := updI_zero
theorem QsL : updI f l l.length = tabL (fun i => f i (l.getD i default)) l.length := Qjy fun i hi => by simp [hi]
theorem Qtr {f : Zone → Zone} : updL f l l.length = l.map f := by rw [updL, QsL, Qmc]
theorem Qsk {i : Nat} (h : k ≤ i) (hi : i < l.length) : (updI f l k).getD i default = l.getD i default := by
 rw [updI, Qrs hi, Qxu om]
theorem Qs9 (h : k < l.length) : (updI f l k).set k (f k (l.getD k default)) = updI f l (k + 1) := by
 apply List.ext_getElem
 ·simp
 ·intro i h1 h2
  rw [List.getElem_set]
  have hi : i < l.length := by simpa using h2
  simp only [updI, tabL, Qzd, List.getElem_range]
  by_cases c : k = i
  ·subst c
   simp
  ·rw [Qxu c]
   by_cases c2 : i < k
   ·rw [Qxt c2, Qxt om]
   ·rw [Qxu c2, Qxu om]
theorem Qqs {l : List Zone} (hk : k < l.length) (du : Int) (i j : Nat) (hj : j < 3) : updG (Qaa l) k 1 [.int .i64 du] i j = Qaa (l.set k { l.getD k default with durable := du }) i j :=
 QeA (f := Zone.cell) hk (es := 3) (fun j hj => by
  match j, hj with
  | 0, _ => rfl
  | 1, _ => rfl
  | 2, _ => rfl) i j hj
end Go.Am
namespace Go.Am
theorem Qb9 {α : Type} {l : List α} {a n : Nat} {d : α} (h : a < n) : l.getD a d = (l.take n).getD a d := by simp [List.getD, Qye, h]
def Qr7 (n : Int) (i : Nat) : Int := IntKind.u8.wrap (modI (IntKind.i64.wrap (n + IntKind.i64.wrap (i * n))) 251)
def Qt7 (n : Int) (i : Nat) : Int := if i = 0 then IntKind.u8.wrap (IntKind.i64.wrap (1 + modI n 255)) else Qr7 n i
def genG (f : Nat → Int) : Nat → Nat → C := fun i _ => .int .u8 (f i)
theorem Qmt {f : Nat → Int} {k : Nat} {v : Int} (i j : Nat) (hj : j < 1) : updG (genG f) k 0 [.int .u8 v] i j = genG (fun i => if i = k then v else f i) i j := by
 have : j = 0 := by omega
 subst this
 rw [QX]
 simp only [genG]
 split <;> rename_i h
 ·rw [Qxt h.1]
 ·rw [Qxu (fun e => h (by simp [e]))]
def Qi0 (n : Int) : ByteArray := QQ 16 (genG (Qt7 n))
theorem Qn6 (n : Int) : (Qi0 n).size = 16 := Qa0 _ _
def recD (d : DiceM) : DiceM := d.step.step.step
def recR (d : DiceM) (blocks version : Int) : Rec :=
 if d.step.step.next 4 = 3 then ⟨2, d.next blocks, version, 0, ByteArray.empty⟩ else ⟨1, d.next blocks, version, 0, Qi0 (d.step.next 200)⟩
end Go.Am
namespace Go.Am
end Go.Am
end

section
open Go Go.Am
namespace Go.Proofs
set_option maxRecDepth 20000
variable {l : List Ent} {b : Int} {i : Nat} {m : List (List Ent)}
theorem QpI (l : List Int) : PS 8 [.c (Qh l)] (.c (.bool (decide (l.length ≤ 300)))) := by
 refine PSpec.rm ?_
 refine ov hΓ Tryz.func8 6 0 [.tmp 2] Tryz.ntmps8 Tryz.results8 ?_
 refine Go1 fun _h=>?_
 refine Qv8 ?_
 exact decide_eq_decide.2 om
theorem QqD : HB 8 := hB Tryz.func8
theorem Qh2 (x n : Int) : PS 23 [.c (.int .i64 x), .c (.int .i64 n)] (.c (.int .i64 (modI x n))) := by
 refine PSpec.rm ?_
 refine ov0 hΓ Tryz.func23 14 0 [.tmp 4] Tryz.ntmps23 Tryz.results23 ?_
 refine Br.of (fun h=>Go0 ?_) (fun h=>Go0 ?_)
 ·rw [Qr1 om]
  exact QuV
 ·rw [show modI x n = (IntKind.i64.wrap (x.tmod n + n)).tmod n from Qxu om]
  exact QuV
theorem Qia : HB 23 := hB Tryz.func23
theorem Qk3 (l : List Int) (hl : l.length ≤ 10000000) : CS 15 [.c (Qh l)] [] fun s H => s = .c (.ptr 0 0) ∧ H = [.vr (DiceM.cells ⟨l, 0⟩)] := by
 refine CSpec.rm ?_
 refine ov0 hΓ Tryz.func15 8 0 [.tmp 2] Tryz.ntmps15 Tryz.results15 ?_
 refine ⟨_, _, ?_, rfl, rfl⟩
 refine RM.rg 0 (g' := QaK .i64 l) rfl (fun i _ j _ => QkY j) rfl ?_
 refine RM.fz 0 rfl (Qxx _) (fun i _ j _ => rfl) ?_
 exact Qwe [1] (by decide) wb0 wb0
theorem Qkm : HB 15 := hB Tryz.func15
theorem QJ (d : DiceM) (hd : d.ok) (n : Int) : CS 37 [.c (.ptr 0 0), .c (.int .i64 n)] [.vr d.cells] fun s H => s = .c (.int .i64 (d.next n)) ∧ H = [.vr d.step.cells] := by
 refine CSpec.rm ?_
 refine ov hΓ Tryz.func37 35 1 [.tmp 4] Tryz.ntmps37 Tryz.results37 ?_
 have h1 := hd.le
 have h2 := hd.len
 refine Go0 ?_
 refine Dr.mk hΓ hMix (by kernel_rfl) (Go0 ?_)
 refine Br.of (fun h=>Go0 ?_) (fun h=>Go0 ?_)
 ·have h' : d.l.length ≤ d.at_ := by omega
  refine ⟨_, _, ?_, rfl, rfl⟩
  rw [show d.step = d from Qxt h', show d.next n = 0 from Qxt h']
  exact QvB
 ·have h' : ¬ d.l.length ≤ d.at_ := by omega
  have w0 := Qa (↑d.at_ + 1) om om
  have w1 := Qa (↑d.at_ + 1 - 1) om om
  refine Dr.mk hΓ hMix (by kernel_rfl) (Go0 ?_)
  have e0 : (IntKind.i64.wrap (IntKind.i64.wrap (↑d.at_ + 1) - 1)).toNat = d.at_ := by rw [w0, w1]; omega
  rw [e0]
  refine CallP.auto Qia (Qh2 (d.l.getD d.at_ 0) n ) (Go0 ?_)
  refine ⟨_, _, ?_, rfl, rfl⟩
  rw [show d.step = ⟨d.l, d.at_ + 1⟩ from Qxu h', show d.next n = modI (d.l.getD d.at_ 0) n from Qxu h']
  exact QvB
theorem QK : HB 37 := hB Tryz.func37
def Qc0 (blocks size : Int) : Int := 2 * (blocks + 2 + size - 1).tdiv size + 6
def Q7 (d : DiceM) : Conf :=
 ⟨Qc0 (1 + d.step.next 6) (3 + d.next 4) + d.step.step.step.step.step.next 3, 3 + d.next 4, 1 + d.step.next 6, 1 + d.step.step.next 3, 1 + d.step.step.step.next 3, 1 + d.step.step.step.step.next 3⟩
def QfD (d : DiceM) : DiceM := d.step.step.step.step.step.step
theorem Qkr {d : DiceM} (h : d.ok) : (QfD d).ok := h.step.step.step.step.step.step
theorem QiT (d : DiceM) (hd : d.ok) : CS 54 [.c (.ptr 0 0)] [.vr d.cells] fun s H => s = .a (Q7 d).cells ∧ H = [.vr (QfD d).cells] := by
 refine CSpec.rm ?_
 refine ov0 hΓ Tryz.func54 37 1 [.cell 2 26] Tryz.ntmps54 Tryz.results54 ?_
 refine CallN.autoQ [0] QK (QJ d hd 4) (Go0 ?_)
 refine CallN.autoQ [0] QK (QJ d.step hd.step 6) (Go0 ?_)
 refine CallN.autoQ [0] QK (QJ d.step.step hd.step.step 3) (Go0 ?_)
 refine CallN.autoQ [0] QK (QJ d.step.step.step hd.step.step.step 3) (Go0 ?_)
 refine CallN.autoQ [0] QK (QJ d.step.step.step.step hd.step.step.step.step 3) (Go0 ?_)
 have r1 := d.next_range (n := 4) om om
 have r2 := d.step.next_range (n := 6) om om
 have r3 := d.step.step.next_range (n := 3) om om
 have r4 := d.step.step.step.next_range (n := 3) om om
 have r5 := d.step.step.step.step.next_range (n := 3) om om
 have r6 := d.step.step.step.step.step.next_range (n := 3) om om
 have w1 := Qa (3 + d.next 4) om om
 have w2 := Qa (1 + d.step.next 6) om om
 refine Qvd hΓ hMix [37] [(0, 13), (1, 13), (2, 13), (3, 13), (4, 13), (5, 13), (6, 13), (7, 13), (8, 13), (9, 13), (10, 13), (11, 13)] (by kernel_rfl) (Go0 ?_)
 refine CallE.autoQ [0] QK (QJ d.step.step.step.step.step hd.step.step.step.step.step 3) (Go0 ?_)
 refine ⟨_, _, ?_, rfl, rfl⟩
 have hq : 0 ≤ (1 + d.step.next 6 + 2 + (3 + d.next 4) - 1).tdiv (3 + d.next 4) ∧ (1 + d.step.next 6 + 2 + (3 + d.next 4) - 1).tdiv (3 + d.next 4) ≤ 100 := by
  rw [QyS om]
  exact ⟨Int.ediv_nonneg om om, Int.ediv_le_of_le_mul om om⟩
 have e1 : IntKind.i64.wrap (IntKind.i64.wrap (2 * IntKind.i64.wrap ((IntKind.i64.wrap (IntKind.i64.wrap (IntKind.i64.wrap (IntKind.i64.wrap (1 + d.step.next 6) + 2) + IntKind.i64.wrap (3 + d.next 4)) - 1)).tdiv (IntKind.i64.wrap (3 + d.next 4)))) + 6) = Qc0 (1 + d.step.next 6) (3 + d.next 4) := by
  rw [w1, w2, Qa (1 + d.step.next 6 + 2) om om, Qa (1 + d.step.next 6 + 2 + (3 + d.next 4)) om om, Qa (1 + d.step.next 6 + 2 + (3 + d.next 4) - 1) om om]
  rw [Qa ((1 + d.step.next 6 + 2 + (3 + d.next 4) - 1).tdiv (3 + d.next 4)) om om, Qa (2 * (1 + d.step.next 6 + 2 + (3 + d.next 4) - 1).tdiv (3 + d.next 4)) om om]
  exact Qa _ om om
 have e2 : IntKind.i64.wrap (Qc0 (1 + d.step.next 6) (3 + d.next 4) + d.step.step.step.step.step.next 3) = Qc0 (1 + d.step.next 6) (3 + d.next 4) + d.step.step.step.step.step.next 3 := Qa _ (by unfold Qc0; omega) (by unfold Qc0; omega)
 have f6 : IntKind.i64.wrap (1 + d.step.step.step.step.next 3) = (Q7 d).shards := Qa _ om om
 have f5 : IntKind.i64.wrap (1 + d.step.step.step.next 3) = (Q7 d).depth := Qa _ om om
 have f4 : IntKind.i64.wrap (1 + d.step.step.next 3) = (Q7 d).queues := Qa _ om om
 have f3 : IntKind.i64.wrap (1 + d.step.next 6) = (Q7 d).blocks := w2
 have f2 : IntKind.i64.wrap (3 + d.next 4) = (Q7 d).size := w1
 have f1 : IntKind.i64.wrap (IntKind.i64.wrap (IntKind.i64.wrap (2 * IntKind.i64.wrap ((IntKind.i64.wrap (IntKind.i64.wrap (IntKind.i64.wrap (IntKind.i64.wrap (1 + d.step.next 6) + 2) + IntKind.i64.wrap (3 + d.next 4)) - 1)).tdiv (IntKind.i64.wrap (3 + d.next 4)))) + 6) + d.step.step.step.step.step.next 3) = (Q7 d).zones := by rw [e1]; exact e2
 rw [show QfD d = d.step.step.step.step.step.step from rfl]
 clear w1 w2 e1 e2 r1 r2 r3 r4 r5 r6 hq
 refine QvG ?_ ?_ leN
 ·exact wb0
 ·refine WS.a (WL.cons (WC.int f1) (WL.cons (WC.int f2) (WL.cons (WC.int f3) (WL.cons (WC.int f4) (WL.cons (WC.int f5) (WL.cons (WC.int f6) WL.nil))))))
theorem Qjs : HB 54 := hB Tryz.func54
theorem QfV (d : DiceM) : QB (Q7 d) = 0 := by
 have r1 := d.next_range (n := 4) om om
 have r2 := d.step.next_range (n := 6) om om
 have r3 := d.step.step.next_range (n := 3) om om
 have r4 := d.step.step.step.next_range (n := 3) om om
 have r5 := d.step.step.step.step.next_range (n := 3) om om
 have r6 := d.step.step.step.step.step.next_range (n := 3) om om
 unfold Q7
 generalize d.next 4 = a at *
 generalize d.step.next 6 = b at *
 generalize d.step.step.next 3 = q at *
 generalize d.step.step.step.next 3 = p at *
 generalize d.step.step.step.step.next 3 = m at *
 generalize d.step.step.step.step.step.next 3 = z at *
 have hs : 1 ≤ (1 + b + 2 + (3 + a) - 1).tdiv (3 + a) ∧ (1 + b + 2 + (3 + a) - 1).tdiv (3 + a) ≤ 4 := by
  rw [QyS om]
  exact ⟨(Int.le_ediv_iff_mul_le om).2 om, Int.ediv_le_of_le_mul om om⟩
 have hr : Qby ⟨Qc0 (1 + b) (3 + a) + z, 3 + a, 1 + b, 1 + q, 1 + p, 1 + m⟩ = true := by
  rw [confR_iff]; simp only [Qc0]; omega
 unfold QB
 rw [Qxt hr, Qxu]
 simp only [Qp, capN, Qz, Qc0]
 generalize (1 + b + 2 + (3 + a) - 1).tdiv (3 + a) = t at *
 have h3 : (2 * t + 6 + z - 2 * t - 3) * (3 + a - 1) ≥ 3 * 2 := Int.mul_le_mul om om om om
 have h4 : (2 * t + 6 + z - 2 * t - 3) * (3 + a - 1) = (3 + z) * (2 + a) := by congr 1 <;> omega
 rintro (h | h)
 ·omega
 ·rw [h4] at h h3
  omega
def Qo (l : List Ent) (b : Int) : Nat := l.findIdx fun e => decide (b ≤ e.block)
theorem QdU (l : List Ent) (b : Int) : Qo l b ≤ l.length := List.findIdx_le_length
theorem QqZ {k : Nat} (hk : k ≤ l.length) (h : ∀ i, i < k → (l.getD i default).block < b) (he : k = l.length ∨ b ≤ (l.getD k default).block) : Qo l b = k := by
 unfold Qo
 rcases he with rfl | he
 ·refine List.findIdx_eq_length.2 fun x hx => ?_
  obtain ⟨i, hi, rfl⟩ := QxP hx
  have := h i hi
  rw [show l.getD i default = l[i] by simp [List.getD, hi]] at this
  exact QxE om
 ·by_cases c : k < l.length
  ·rw [List.findIdx_eq c]
   refine ⟨?_, fun j hj => ?_⟩
   ·rw [show l.getD k default = l[k] by simp [List.getD, c]] at he
    exact Qxz he
   ·have := h j hj
    rw [show l.getD j default = l[j] by simp [List.getD, show j < l.length by omega]] at this
    exact QxE om
  ·have : k = l.length := by omega
   subst this
   refine List.findIdx_eq_length.2 fun x hx => ?_
   obtain ⟨i, hi, rfl⟩ := QxP hx
   have := h i hi
   rw [show l.getD i default = l[i] by simp [List.getD, hi]] at this
   exact QxE om
theorem Qr2 (h : i < Qo l b) : (l.getD i default).block < b := by
 have hl : i < l.length := Nat.lt_of_lt_of_le h (QdU l b)
 have := List.not_of_lt_findIdx h
 rw [show l.getD i default = l[i] by simp [List.getD, hl]]
 simpa using this
theorem Qre (h : Qo l b < l.length) : b ≤ (l.getD (Qo l b) default).block := by
 have := List.findIdx_getElem (p := fun (e : Ent) => decide (b ≤ e.block)) (xs := l) (w := h)
 rw [show l.getD (Qo l b) default = l[Qo l b] by simp [List.getD, h]]
 exact Qx4 this
def hasM (l : List Ent) (b : Int) : Bool := decide (Qo l b < l.length ∧ (l.getD (Qo l b) default).block = b)
def QO (l : List Ent) (b : Int) : Ent × Bool := if QM l = true ∧ hasM l b = true then (l.getD (Qo l b) default, true) else (default, false)
def putE (l : List Ent) (e : Ent) : List Ent := l.take (Qo l e.block) ++ e :: l.drop (if hasM l e.block = true then Qo l e.block + 1 else Qo l e.block)
def QaP (l : List Ent) (e : Ent) : List Ent × Ent × Bool :=
 if QM l = true then
  if QaQ e = true then
   if (QO l e.block).2 = true ∧ e.version ≤ (QO l e.block).1.version then (l, (QO l e.block).1, false)
   else (putE l e, (QO l e.block).1, true)
  else (l, default, false)
 else ([], default, false)
def relE (l : List Ent) (b v fz fo tz zto move : Int) : List Ent × Bool :=
 if QM l = true then
  if (QO l b).2 = true ∧ (QO l b).1.version = v ∧ (QO l b).1.zone = fz ∧ (QO l b).1.offset = fo ∧ 0 ≤ tz ∧ 0 ≤ zto ∧ 0 ≤ move ∧ move ≤ 255 then
   (l.set (Qo l b) { (QO l b).1 with zone := tz, offset := zto, move := move }, true)
  else (l, false)
 else ([], false)
def QE (m : List (List Ent)) (b : Int) : Nat := (b.tmod m.length).toNat
def QfX (m : List (List Ent)) (b : Int) : Ent × Bool := if Qx m = true ∧ 0 ≤ b then QO (m.getD (QE m b) default) b else (default, false)
def Qax (m : List (List Ent)) (e : Ent) : List (List Ent) × Ent × Bool :=
 if Qx m = true ∧ 0 ≤ e.block then
  if (QaP (m.getD (QE m e.block) default) e).2.2 = true then (m.set (QE m e.block) (QaP (m.getD (QE m e.block) default) e).1, (QaP (m.getD (QE m e.block) default) e).2.1, true)
  else (m, (QaP (m.getD (QE m e.block) default) e).2.1, false)
 else (m, default, false)
def relM (m : List (List Ent)) (b v fz fo tz zto move : Int) : List (List Ent) × Bool :=
 if Qx m = true ∧ 0 ≤ b then
  if (relE (m.getD (QE m b) default) b v fz fo tz zto move).2 = true then (m.set (QE m b) (relE (m.getD (QE m b) default) b v fz fo tz zto move).1, true) else (m, false)
 else (m, false)
theorem Qbw (h : Qx m = true) : 1 ≤ m.length ∧ m.length ≤ 8 := by
 unfold Qx at h
 simp only [QxA, Qxw] at h
 exact h.1
theorem Qch (h : Qx m = true) (hi : i < m.length) : QM (m.getD i default) = true ∧ Qan (m.getD i default) m.length i = true := by
 unfold Qx at h
 simp only [QxA, Qxw] at h
 exact h.2 i hi
theorem Qd4 (h : Qx m = true) (hb : 0 ≤ b) : QE m b < m.length := by
 have := Qbw h
 unfold QE
 have h1 := Int.tmod_nonneg (m.length : Int) hb
 have h2 := Int.tmod_lt_of_pos b (show 0 < (m.length : Int) by omega)
 omega
theorem QhX (h : Qx m = true) (hb : 0 ≤ b) : (QE m b : Int) = b.tmod m.length := by
 have := Qbw h
 have h1 := Int.tmod_nonneg (m.length : Int) hb
 unfold QE
 omega
def Qa3 (l : List Ent) (b : Int) : Nat → Nat
 | 0 => 0
 | k + 1 => if b < (l.getD k default).block then Qa3 l b k else k + 1
theorem Qin (l : List Ent) (b : Int) : ∀ k, Qa3 l b k ≤ k
 | 0 => QxB _
 | k + 1 => by
  have := Qin l b k
  unfold Qa3
  split <;> omega
def insE (l : List Ent) (x : Ent) : List Ent := l.take (Qa3 l x.block l.length) ++ x :: l.drop (Qa3 l x.block l.length)
theorem Qme (l : List Ent) (x : Ent) : (insE l x).length = l.length + 1 := by
 have := Qin l x.block l.length
 simp [insE]; omega
def allM (m : List (List Ent)) : List Ent := m.flatten.foldl insE []
def allS (m : List (List Ent)) : List Ent := if Qx m = true then allM m else []
end Go.Proofs
end
