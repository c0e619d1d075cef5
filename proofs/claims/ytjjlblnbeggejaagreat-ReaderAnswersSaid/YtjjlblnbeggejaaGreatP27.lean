/- Contracts, lemmas; no condition. -/
import Derived.Test.YtjjlblnbeggejaaGreatP26
import Derived.Test.YtjjlblnbeggejaaGreatP10
import Derived.Test.YtjjlblnbeggejaaGreatP20
import Derived.Test.YtjjlblnbeggejaaGreatP16
import Derived.Test.YtjjlblnbeggejaaGreatP17
import Derived.Test.YtjjlblnbeggejaaGreatA26
import Derived.Test.YtjjlblnbeggejaaGreatP18
import Derived.Test.YtjjlblnbeggejaaGreatP22
import Derived.Test.YtjjlblnbeggejaaGreatEnv
import Derived.Shelf.Strings.Repeat
import Derived.Shelf.Strings.OnBuilder
import Derived.Shelf.Strconv.Clone
import Derived.Test.YtjjlblnbeggejaaGreatA27
import Derived.Test.YtjjlblnbeggejaaGreatP12
import Derived.Test.YtjjlblnbeggejaaGreatP15
set_option linter.all false
section
open Go Go.Am
namespace Go.Proofs
set_option maxRecDepth 20000
theorem Qvk (l : List Evt) : (QtE l).length ≤ l.length := Qhz l _
set_option maxHeartbeats 8000000 in
theorem Qh1 (s : St) (hs : s.small) (q : Int) (x : Req) : PS 24 [.a s.cells, .c (.int .i64 q), .a [.int .i64 x.kind, .int .i64 x.block, .str x.data]] (.t [.inr (Qo4 s q x).1.cells, .inl (.int .i64 (Qo4 s q x).2)]) := by
 refine PSpec.rm ?_
 have he1 := hs.evs
 have he2 := Qvk s.evs
 have hrl := hs.rings
 refine ov0 hΓ Tryz.func24 93 0 [.cell 6 58, .tmp 7] Tryz.ntmps24 Tryz.results24 ?_
 refine QuU Qfc (Qey s hs ) (Go0 ?_)
 by_cases hv : QaI s = true
 ·refine Br.no (by rw [hv]; rfl) (Go0 ?_)
  have hp := validS_V.1 hv
  by_cases hq : 0 ≤ q ∧ q < s.rings.length
  ·have hq2 : q.toNat < s.rings.length := by omega
   refine Br.no (QxG.2 fun ebye => by simp [-List.getD_eq_getElem?_getD, -Int.default_eq_zero, hq.1,hq.2] at ebye <;> grind) ?_; conv=>whnf
   refine Go0 ?_
   refine Dr.mk hΓ hMix (by kernel_rfl) (Go0 ?_)
   refine CallP.auto QrC (QuR s hs ) (Go0 ?_)
   rw [Qxt hv]
   have w0 : IntKind.i64.wrap (↑s.evs.length + ↑(QtE s.evs).length) = ↑s.evs.length + ↑(QtE s.evs).length := Qa _ om om
   have hser := hp.parts.serial
   by_cases hl : 398 < s.evs.length + (QtE s.evs).length ∨ 1099511627776 ≤ s.serial
   ·refine Br.yes (by rw [w0]; simp; omega) (Go0 ?_)
    rw [show Qo4 s q x = (s, 19) by unfold Qo4; rw [Qxt hv, Qxt hq, Qxt hl]]
    exact QuV
   ·refine Br.no (by rw [w0]; simp; omega) (Go0 ?_)
    have w1 := Qa (s.serial + 1) om om
    have hb : Qo4 s q x = (let y : Req := { x with serial := s.serial }
    if s.closed = true then
     (({ s with serial := s.serial + 1 }.addEv (QiD false q y 0 ByteArray.empty)).addEv (QiD true q y 12 ByteArray.empty), 0)
    else
     let r := QtT (s.rings.getD q.toNat default) y
     if r.2 ≠ 0 then (s, r.2)
     else ({ (s.setRing q.toNat r.1) with serial := s.serial + 1 }.addEv (QiD false q y 0 ByteArray.empty), 0)) := by unfold Qo4; rw [Qxt hv, Qxt hq, Qxu hl]
    by_cases hcl : s.closed = true
    ·refine Br.no (by rw [hcl]; rfl) (Go0 ?_)
     rw [w1]
     refine QuU Qb5 (Qcp { s with serial := s.serial + 1 } (QiD false q { x with serial := s.serial } 0 ByteArray.empty) hs.evs ) (Go0 ?_)
     refine Br.yes hcl (Go0 ?_)
     refine QuU Qb5 (Qcp (St.addEv { s with serial := s.serial + 1 } (QiD false q { x with serial := s.serial } 0 ByteArray.empty)) (QiD true q { x with serial := s.serial } 12 ByteArray.empty) (by simp [St.addEv]; omega) ) (Go0 ?_)
     rw [hb, Qxt hcl]
     exact QuV
    ·refine Br.yes (by rw [Qq hcl]; rfl) (Go0 ?_)
     refine Qvd hΓ hMix [] [(11, 13)] (by kernel_rfl) (Go0 ?_)
     refine CallP.auto Qvq (Qvp (s.rings.getD q.toNat default) { x with serial := s.serial } (hs.items _) ) (Go0 ?_)
     generalize ht : QtT (s.rings.getD q.toNat default) { x with serial := s.serial } = t
     obtain ⟨r, e⟩ := t
     by_cases he : e = 0
     ·subst he
      refine Br.no rfl (Go0 ?_)
      rw [w1]
      have hln : 0 + s.rings.length = (s.setRing q.toNat r).rings.length := by simp [St.setRing]
      have hfz : ∀ (ρ : Nat → Nat) (m : Nat) (g : Nat → Nat → C) (x : Bool), (∀ i j, j < 2 → g i j = rngG (s.setRing q.toNat r).rings i j) → WC ρ m (fzC 4 (0 + s.rings.length) g (.sl 4 2 (0 + s.rings.length) (0 + s.rings.length) x)) (rngC (s.setRing q.toNat r).rings) := fun ρ m g x hg => WC.fz rfl hln (fun i _ j hj => leF.of_eq (hg i j hj)) (fun e => by cases e)
      refine QvJ 4 [1, 3, 5, 6, 8] [] [.vr ({ (s.setRing q.toNat r) with serial := s.serial + 1 } : St).cells, .vr [.int .i64 x.kind, .int .i64 x.block, .str x.data], .vr (default : St).cells, .vr r.cells, .dead] [.a ({ (s.setRing q.toNat r) with serial := s.serial + 1 } : St).cells, .a (QiD false q { x with serial := s.serial } 0 ByteArray.empty).cells] rfl leN (fun i _ j hj => (QxK C.imm (Qae hq2 rfl i j hj)).trans (Qau _ _)) (by (first|refine wb1 ?_|refine wb2 ?_ ?_|refine wb3 ?_ ?_ ?_|refine wb4 ?_ ?_ ?_ ?_) <;> first | exact hfz _ _ _ _ fun i j hj => Qae hq2 rfl i j hj | exact fun i _ j _ => WC.fzI (QaW _ _)) wb0 (by (first|refine wb1 ?_|refine wb2 ?_ ?_|refine wb3 ?_ ?_ ?_|refine wb4 ?_ ?_ ?_ ?_) <;> first | exact hfz _ _ _ _ fun i j hj => Qae hq2 rfl i j hj | exact fun i _ j _ => WC.fzI (QaW _ _)) leN ?_
      refine QuU Qb5 (Qcp { (s.setRing q.toNat r) with serial := s.serial + 1 } (QiD false q { x with serial := s.serial } 0 ByteArray.empty) hs.evs ) (Go0 ?_)
      refine Br.no (Qq hcl) (Go0 ?_)
      rw [hb, Qxu hcl]
      simp only [ht]
      rw [Qxu (by simp)]
      exact QuV
     ·refine Br.yes (by simpa using he) (Go0 ?_)
      rw [hb, Qxu hcl]
      simp only [ht]
      rw [Qxt he]
      exact QuV
  ·refine Br.yes (QxC fun ebye => hq (by simp [-List.getD_eq_getElem?_getD, -Int.default_eq_zero] at ebye <;> grind)) ?_; conv=>whnf
   refine Go0 ?_
   rw [show Qo4 s q x = (s, 1) by unfold Qo4; rw [Qxt hv, Qxu hq]]
   exact QuV
 ·refine Br.yes (by rw [Qq hv]; rfl) (Go0 ?_)
  rw [show Qo4 s q x = (s, 6) from Qxu hv]
  exact QuV
theorem QhQ : HB 24 := hB Tryz.func24
theorem QlD (d : Dev) (hd : d.small) : PS 60 [d.s] (Dev.out (Qbo d) (check d)) := by
 refine PSpec.rm ?_
 refine ov hΓ Tryz.func60 37 0 [.cell 2 29, .tmp 3] Tryz.ntmps60 Tryz.results60 ?_
 conv=>whnf
 refine CallN.pure Qcq (Qcr d ) (leA.refl rfl) rfl (Go0 ?_)
 refine Br.of (fun h1=>?_) (fun h1=>?_)<;>(try simp only [Qxy] at h1)<;>(conv=>whnf)
 ·refine Go0 ?_
  rw [show Qbo d = dev0 from Qxu h1]
  exact QuV
 ·have hz := hd.z
  refine Go0 ?_
  refine QuY hΓ (ι := Nat) [2, 1] (fun k => [(5, .c (.int .i64 k))]) (fun k => [.vr [.int .i64 d.size, .int .i64 d.maxOpen, .int .i64 d.maxActive, .sl 2 3 d.zones.length d.zones.length false], .vr dev0.cells, .arr 76 3 d.zones.length (Qaa (updL QcF d.zones k))]) (fun k => k ≤ d.zones.length) (fun k => d.zones.length - k) 0 (Qxx _) ?_ ?_
  ·refine Qvm ?_
   intro i hi j hj
   exact WC.eq ((QkY (f := Zone.cell) j).trans (by first | (rw [updI_zero]; rfl) | (rw [updL_zero]; rfl))) (Qbv _ _ _)
  ·intro k hk
   refine Go0 ?_
   refine Br.of (fun h2=>Go0 ?_) (fun h2=>Go0 ?_)
   ·have hlt : k < d.zones.length := by omega
    refine Dr.mk hΓ hMix (by kernel_rfl) (Go0 ?_)
    have hg : (updL QcF d.zones k).getD k default = d.zones.getD k default := Qsk (QxB _) hlt
    refine Frc.mk (.c (Qay (d.zones.getD k default).sectors)) (QxK (fun z : Zone => S.c (Qay z.sectors)) hg) (Go0 ?_)
    refine ⟨k + 1, om, om, ?_⟩
    refine Qvm ?_
    intro i hi j hj
    refine WC.eq ((Qqs (by simpa using hlt) _ i j hj).trans ?_) (Qbv _ _ _)
    rw [Qxy, hg]
    exact QxK (fun l => Qaa l i j) (Qs9 (f := fun _ => QcF) hlt)
   ·have : k = d.zones.length := by omega
    subst this
    rw [Qtr, show Qbo d = { d with zones := d.zones.map QcF } from Qxt h1, h1]
    refine RM.fz 2 rfl (Qxx _) (fun _ _ _ _ => (by first | exact rfl | exact Qd5 _ _ | exact Qbv _ _ _ | exact QT _ _ _)) ?_; refine QvG ?_ ?_ (Qxx _) <;> (first|exact wb0|refine wb1 ?_|refine wb2 ?_ ?_|refine wb3 ?_ ?_ ?_|refine wb4 ?_ ?_ ?_ ?_)
theorem QlC : HB 60 := hB Tryz.func60
end Go.Proofs
end

section
open Go Go.Am
namespace Go.Am
theorem CallE.same {P : Program} {f : FuncId} {args args' : List S} {H Hc : List O} {s0 : S} {k : S → List O → Prop} (rs : List Nat) (hb : HasBody P f) (hc : CSpec P f args' Hc fun s H' => s = s0 ∧ H' = Hc) (hp : PlainH Hc)
  (hk : k (reS (sg rs H.length) s0) H) (e : Qjq rs H Hc = H := by rfl) (hr : rs.Nodup := by decide) (h : WR (rho rs) Hc.length H rs Hc := by exact wb0) (hd : Qcd Hc = true := by exact rfl) (ha : WB (rho rs) Hc.length args args' := by exact wb0) : CallE P f args H k :=
 ⟨_, H, hb, CSpec.frame hc rs (Qwh hr h) (QbM hd) ha.out fun s Hc' hq => by
  obtain ⟨rfl, rfl⟩ := hq
  exact ⟨rfl, (Qh4 hp).symm.trans e⟩, fun _ _ _ h => h, hk⟩
end Go.Am
namespace Go.Proofs
set_option maxRecDepth 20000
def St.jobC (s : St) (q : Int) : List C := s.cellsK 1 ++ [.int .i64 q]
theorem QcZ (s : St) (q : Int) (h0 : 0 ≤ q) (h1 : q < s.works.length) : CS 77 [.c (.ptr 0 0)] [.vr (s.jobC q), s.wobj] fun x H => x = .c (.ep 1 q.toNat 0 s.works.length) ∧ H = [.vr (s.jobC q), s.wobj] := by
 refine CSpec.rm ?_
 refine ov hΓ Tryz.func77 13 2 [.tmp 2] Tryz.ntmps77 Tryz.results77 ?_
 ((conv=>whnf);(repeat' ((first|refine Nd ?_|refine Hv fun _h=>?_);conv=>whnf)))
 refine Dr.mk hΓ hMix (by kernel_rfl) ?_; conv=>whnf
 ((conv=>whnf);(repeat' ((first|refine Nd ?_|refine Hv fun _h=>?_);conv=>whnf)))
 refine ⟨_, _, ?_, rfl, rfl⟩
 exact RM.refl
theorem Qc4 : HB 77 := hB Tryz.func77
def pinS (s : St) (q : Int) : St := { s with pins := (pinM s.glob s.pins s.rets q).1 }.setWork q.toNat { s.works.getD q.toNat default with state := 2 }
theorem QvA (s : St) (hs : s.small) (q : Int) (h0 : 0 ≤ q) (h1 : q < s.works.length) : CS 73 [.c (.ptr 0 0)] [.vr (s.jobC q), s.wobj] fun x H => x = .c (.bool (pinM s.glob s.pins s.rets q).2) ∧ H = [.vr ((pinS s q).jobC q), (pinS s q).wobj] := by
 refine CSpec.rm ?_
 refine ov hΓ Tryz.func73 28 2 [.tmp 2] Tryz.ntmps73 Tryz.results73 ?_
 ((conv=>whnf);(repeat' ((first|refine Nd ?_|refine Hv fun _h=>?_);conv=>whnf)))
 refine Qvd hΓ hMix [] [(12, 14)] (by kernel_rfl) ?_; conv=>whnf
 ((conv=>whnf);(repeat' ((first|refine Nd ?_|refine Hv fun _h=>?_);conv=>whnf)))
 refine CallP.auto QvM (QvD s.glob s.pins s.rets q hs.pins hs.rets ) ?_
 ((conv=>whnf);(repeat' ((first|refine Nd ?_|refine Hv fun _h=>?_);conv=>whnf)))
 refine Qvd hΓ hMix [77] [(0, 2), (3, 2)] (by kernel_rfl) ?_; conv=>whnf
 ((conv=>whnf);(repeat' ((first|refine Nd ?_|refine Hv fun _h=>?_);conv=>whnf)))
 refine CallE.same [0, 1] Qc4 (QcZ s q h0 h1) plh ?_
 ((conv=>whnf);(repeat' ((first|refine Nd ?_|refine Hv fun _h=>?_);conv=>whnf)))
 have hl : (pinS s q).works.length = s.works.length := QxT
 refine ⟨_, _, ?_, rfl, rfl⟩
 refine QvN ?_
 ·exact fun i _ j hj => WC.eq (Qi6 om i j hj) (QaW _ _)
theorem QvL : HB 73 := hB Tryz.func73
end Go.Proofs
end

section
namespace Go.Proofs
open Go.Shelf
def Qwi : Go.Shelf.Ren := ⟨fun | 105 => 239 | 212 => 284 | 99 => 285 | 165 => 286 | 166 => 287 | 170 => 288 | 169 => 289 | 263 => 301 | 264 => 302 | 206 => 303 | 240 => 304 | 241 => 305 | 276 => 311 | 277 => 312 | n => n, fun | 9 => 9 | 3 => 3 | 4 => 4 | 20 => 20 | 0 => 0 | 46 => 294 | 109 => 331 | 5 => 5 | 72 => 336 | 76 => 340 | 51 => 259 | 146 => 352 | 53 => 354 | 148 => 355 | 70 => 334 | 37 => 87 | 75 => 339 | 127 => 357 | 164 => 362 | 80 => 152 | n => n, fun | n => n⟩
theorem Tryz.layRepeat : Go.Proofs.Lays.n105 Tryz.prog Qwi := {
 mixed := by kernel_rfl,
 f99 := Tryz.func285.trans (congrArg some (by kernel_rfl)),
 f105 := Tryz.func239.trans (congrArg some (by kernel_rfl)),
 f165 := Tryz.func286.trans (congrArg some (by kernel_rfl)),
 f166 := Tryz.func287.trans (congrArg some (by kernel_rfl)),
 f169 := Tryz.func289.trans (congrArg some (by kernel_rfl)),
 f170 := Tryz.func288.trans (congrArg some (by kernel_rfl)),
 f206 := Tryz.func303.trans (congrArg some (by kernel_rfl)),
 f212 := Tryz.func284.trans (congrArg some (by kernel_rfl)),
 f240 := Tryz.func304.trans (congrArg some (by kernel_rfl)),
 f241 := Tryz.func305.trans (congrArg some (by kernel_rfl)),
 f263 := Tryz.func301.trans (congrArg some (by kernel_rfl)),
 f264 := Tryz.func302.trans (congrArg some (by kernel_rfl)),
 f276 := Tryz.func311.trans (congrArg some (by kernel_rfl)),
 f277 := Tryz.func312.trans (congrArg some (by kernel_rfl)),
 t0 := Tryz.underlying0,
 a0 := Tryz.isAgg0,
 z0 := Tryz.sizeOf0,
 v0 := Tryz.zeroValue0,
 t3 := Tryz.underlying3,
 a3 := Tryz.isAgg3,
 z3 := Tryz.sizeOf3,
 v3 := Tryz.zeroValue3,
 t4 := Tryz.underlying4,
 a4 := Tryz.isAgg4,
 z4 := Tryz.sizeOf4,
 v4 := Tryz.zeroValue4,
 t5 := Tryz.underlying5,
 a5 := Tryz.isAgg5,
 z5 := Tryz.sizeOf5,
 v5 := Tryz.zeroValue5,
 t9 := Tryz.underlying9,
 a9 := Tryz.isAgg9,
 z9 := Tryz.sizeOf9,
 v9 := Tryz.zeroValue9,
 t20 := Tryz.underlying20,
 a20 := Tryz.isAgg20,
 z20 := Tryz.sizeOf20,
 v20 := Tryz.zeroValue20,
 t37 := Tryz.underlying87,
 a37 := Tryz.isAgg87,
 z37 := Tryz.sizeOf87,
 v37 := Tryz.zeroValue87,
 t46 := Tryz.underlying294,
 a46 := Tryz.isAgg294,
 z46 := Tryz.sizeOf294,
 v46 := Tryz.zeroValue294,
 t51 := Tryz.underlying259,
 a51 := Tryz.isAgg259,
 z51 := Tryz.sizeOf259,
 v51 := Tryz.zeroValue259,
 t53 := Tryz.underlying354,
 a53 := Tryz.isAgg354,
 z53 := Tryz.sizeOf354,
 v53 := Tryz.zeroValue354,
 t70 := Tryz.underlying334,
 a70 := Tryz.isAgg334,
 z70 := Tryz.sizeOf334,
 v70 := Tryz.zeroValue334,
 t72 := Tryz.underlying336,
 a72 := Tryz.isAgg336,
 z72 := Tryz.sizeOf336,
 v72 := Tryz.zeroValue336,
 t75 := Tryz.underlying339,
 a75 := Tryz.isAgg339,
 z75 := Tryz.sizeOf339,
 v75 := Tryz.zeroValue339,
 t76 := Tryz.underlying340,
 a76 := Tryz.isAgg340,
 z76 := Tryz.sizeOf340,
 v76 := Tryz.zeroValue340,
 t109 := Tryz.underlying331,
 a109 := Tryz.isAgg331,
 z109 := Tryz.sizeOf331,
 v109 := Tryz.zeroValue331,
 t127 := Tryz.underlying357,
 a127 := Tryz.isAgg357,
 z127 := Tryz.sizeOf357,
 v127 := Tryz.zeroValue357,
 t146 := Tryz.underlying352,
 a146 := Tryz.isAgg352,
 z146 := Tryz.sizeOf352,
 v146 := Tryz.zeroValue352,
 t148 := Tryz.underlying355,
 a148 := Tryz.isAgg355,
 z148 := Tryz.sizeOf355,
 v148 := Tryz.zeroValue355,
 t164 := Tryz.underlying362,
 a164 := Tryz.isAgg362,
 z164 := Tryz.sizeOf362,
 v164 := Tryz.zeroValue362 }
def Qwp : Go.Shelf.Ren := ⟨fun | 156 => 256 | 165 => 286 | 166 => 287 | 169 => 289 | 240 => 304 | 241 => 305 | 276 => 311 | 277 => 312 | n => n, fun | 31 => 74 | 9 => 9 | 3 => 3 | 4 => 4 | 0 => 0 | 20 => 20 | 72 => 336 | 76 => 340 | 70 => 334 | 37 => 87 | 75 => 339 | 127 => 357 | 164 => 362 | 5 => 5 | 80 => 152 | n => n, fun | n => n⟩
theorem Qwl : Go.Proofs.Lays.n156 Tryz.prog Qwp := {
 mixed := by kernel_rfl,
 f156 := Tryz.func256.trans (congrArg some (by kernel_rfl)),
 f165 := Tryz.func286.trans (congrArg some (by kernel_rfl)),
 f166 := Tryz.func287.trans (congrArg some (by kernel_rfl)),
 f169 := Tryz.func289.trans (congrArg some (by kernel_rfl)),
 f240 := Tryz.func304.trans (congrArg some (by kernel_rfl)),
 f241 := Tryz.func305.trans (congrArg some (by kernel_rfl)),
 f276 := Tryz.func311.trans (congrArg some (by kernel_rfl)),
 f277 := Tryz.func312.trans (congrArg some (by kernel_rfl)),
 t0 := Tryz.underlying0,
 a0 := Tryz.isAgg0,
 z0 := Tryz.sizeOf0,
 v0 := Tryz.zeroValue0,
 t3 := Tryz.underlying3,
 a3 := Tryz.isAgg3,
 z3 := Tryz.sizeOf3,
 v3 := Tryz.zeroValue3,
 t4 := Tryz.underlying4,
 a4 := Tryz.isAgg4,
 z4 := Tryz.sizeOf4,
 v4 := Tryz.zeroValue4,
 t9 := Tryz.underlying9,
 a9 := Tryz.isAgg9,
 z9 := Tryz.sizeOf9,
 v9 := Tryz.zeroValue9,
 t20 := Tryz.underlying20,
 a20 := Tryz.isAgg20,
 z20 := Tryz.sizeOf20,
 v20 := Tryz.zeroValue20,
 t31 := Tryz.underlying74,
 a31 := Tryz.isAgg74,
 z31 := Tryz.sizeOf74,
 v31 := Tryz.zeroValue74,
 t37 := Tryz.underlying87,
 a37 := Tryz.isAgg87,
 z37 := Tryz.sizeOf87,
 v37 := Tryz.zeroValue87,
 t70 := Tryz.underlying334,
 a70 := Tryz.isAgg334,
 z70 := Tryz.sizeOf334,
 v70 := Tryz.zeroValue334,
 t72 := Tryz.underlying336,
 a72 := Tryz.isAgg336,
 z72 := Tryz.sizeOf336,
 v72 := Tryz.zeroValue336,
 t75 := Tryz.underlying339,
 a75 := Tryz.isAgg339,
 z75 := Tryz.sizeOf339,
 v75 := Tryz.zeroValue339,
 t76 := Tryz.underlying340,
 a76 := Tryz.isAgg340,
 z76 := Tryz.sizeOf340,
 v76 := Tryz.zeroValue340,
 t127 := Tryz.underlying357,
 a127 := Tryz.isAgg357,
 z127 := Tryz.sizeOf357,
 v127 := Tryz.zeroValue357,
 t164 := Tryz.underlying362,
 a164 := Tryz.isAgg362,
 z164 := Tryz.sizeOf362,
 v164 := Tryz.zeroValue362 }
def QwC : Go.Shelf.Ren := ⟨fun | 316 => 290 | n => n, fun | 9 => 9 | 3 => 3 | 4 => 4 | 37 => 87 | 0 => 0 | 127 => 357 | 5 => 5 | n => n, fun | n => n⟩
theorem QwO : Go.Proofs.LaysM.n316 Tryz.prog QwC := {
 mixed := by kernel_rfl,
 f316 := Tryz.func290.trans (congrArg some (by kernel_rfl)),
 t0 := Tryz.underlying0,
 a0 := Tryz.isAgg0,
 z0 := Tryz.sizeOf0,
 v0 := Tryz.zeroValue0,
 t3 := Tryz.underlying3,
 a3 := Tryz.isAgg3,
 z3 := Tryz.sizeOf3,
 v3 := Tryz.zeroValue3,
 t4 := Tryz.underlying4,
 a4 := Tryz.isAgg4,
 z4 := Tryz.sizeOf4,
 v4 := Tryz.zeroValue4,
 t9 := Tryz.underlying9,
 a9 := Tryz.isAgg9,
 z9 := Tryz.sizeOf9,
 v9 := Tryz.zeroValue9,
 t37 := Tryz.underlying87,
 a37 := Tryz.isAgg87,
 z37 := Tryz.sizeOf87,
 v37 := Tryz.zeroValue87,
 t127 := Tryz.underlying357,
 a127 := Tryz.isAgg357,
 z127 := Tryz.sizeOf357,
 v127 := Tryz.zeroValue357,
 t5 := Tryz.underlying5,
 a5 := Tryz.isAgg5,
 z5 := Tryz.sizeOf5,
 v5 := Tryz.zeroValue5,
 i0 := by kernel_rfl,
 i3 := by kernel_rfl,
 i4 := by kernel_rfl,
 i5 := by kernel_rfl,
 i9 := by kernel_rfl,
 i37 := by kernel_rfl,
 i127 := by kernel_rfl }
end Go.Proofs
end

section
open Go Go.Am
namespace Go.Proofs
set_option maxRecDepth 20000
variable {vs : Array Value} {a : Value}
open Go.Sort
theorem QwL {P : Program} {f : FuncId} {args : List S} {r : S}
  (h : ∀ F μ w vs, (∀ b o, F b = some o → w.heap[b]? = some o) → RepA F [] μ args vs → ∃ v, (∀ F' μ', RepS F' [] μ' r v) ∧ Calls P f vs w fun e w' => e = .returned v ∧ Go.RowKit.Below w.heap.size w w') : PSpec P f args r := by
 intro K F μ w vs hw hA
 obtain ⟨v, v1, v2⟩ := h F μ w vs hw.fr hA
 refine v2.mono ?_
 rintro e w' ⟨rfl, hb⟩
 have hh : ∀ (b : Nat) (o : Obj), w.heap[b]? = some o → w'.heap[b]? = some o := fun b o e => by
  rw [hb.block b (QxH.1 e).1]; exact e
 exact ⟨v, F, μ, r, [], rfl, Mem.le_refl F, hw.later hb.os hb.tape hb.output hh, Ext.refl [] μ, v1 F μ, rfl⟩
theorem Quu (h : vs.size = 1) (h0 : vs[0]? = some a) : vs = #[a] := by
 apply QyM
 intro j
 match j with
 | 0 => rw [h0]; rfl
 | j + 1 => rw [Qx1 om, Qx1 (by simp)]
theorem Qty {b : Value} (h : vs.size = 2) (h0 : vs[0]? = some a) (h1 : vs[1]? = some b) : vs = #[a, b] := by
 apply QyM
 intro j
 match j with
 | 0 => rw [h0]; rfl
 | 1 => rw [h1]; rfl
 | j + 2 => rw [Qx1 om, Qx1 (by simp)]
theorem Qua : Go.Proofs.Builder.Extra Tryz.prog Qwi where
 sizeBuilder := by kernel_rfl
 liesBuilder := by kernel_rfl
 t5 := Tryz.layRepeat.t5
 a5 := Tryz.layRepeat.a5
 z5 := Tryz.layRepeat.z5
 v5 := Tryz.layRepeat.v5
 infoByte := by kernel_rfl
 cellsByte := by kernel_rfl
 sizeByte := by kernel_rfl
 neB5 := by decide
theorem Qmf : Go.Proofs.Builder.Extra Tryz.prog Qwp where
 sizeBuilder := by kernel_rfl
 liesBuilder := by kernel_rfl
 t5 := Tryz.layRepeat.t5
 a5 := Tryz.layRepeat.a5
 z5 := Tryz.layRepeat.z5
 v5 := Tryz.layRepeat.v5
 infoByte := by kernel_rfl
 cellsByte := by kernel_rfl
 sizeByte := by kernel_rfl
 neB5 := by decide
theorem Qtp (n : Nat) (hn : n ≤ 1000) : PS 239 [.c (.str ⟨#[0]⟩), .c (.int .i64 n)] (.c (.str (QQ n fun _ _ => .int .u8 0))) := by
 refine Qwx fun F μ w vs hA => ?_
 obtain ⟨v0, a1, a2, -⟩ := hA.2 0 _ rfl
 obtain ⟨v1, b1, b2⟩ := hA.2 1 _ rfl
 rw [a2] at a1
 rw [show v1 = _ from b2] at b1
 obtain rfl := Qty hA.1 a1 b1
 have e : ∀ n, (Lib.repeatL [0] n) = (List.range n).map fun _ => (0 : UInt8) := by
  intro n
  induction n with
  | zero => rfl
  | succ n ih => rw [List.range_succ_eq_map, Qyz, List.map_map]; simp only [Lib.repeatL, ih]; rfl
 refine ⟨.string (QQ n fun _ _ => .int .u8 0), fun F' μ' => ⟨rfl, by rw [Qa0]; unfold maxLen; omega⟩, ?_⟩
 refine (Any.strings_Repeat Tryz.layRepeat Qua ⟨#[0]⟩ n w om (by show 1 * n ≤ _; omega)).mono ?_
 rintro e' w' ⟨rfl, hb⟩
 refine ⟨?_, hb⟩
 rw [show (⟨#[0]⟩ : ByteArray).data.toList = [0] from rfl, e]
 rfl
theorem Qss : HB 239 := hB Tryz.func239
theorem QmX (s : ByteArray) (hs : s.size ≤ 1000000) : PS 290 [.c (.str s)] (.c (.str s)) := by
 refine Qwx fun F μ w vs hA => ?_
 obtain ⟨v0, a1, a2, a3⟩ := hA.2 0 _ rfl
 rw [a2] at a1
 obtain rfl := Quu hA.1 a1
 exact ⟨.string s, fun F' μ' => ⟨rfl, a3⟩, Any.stringslite_Clone QwO s w om⟩
theorem Qmq : HB 290 := hB Tryz.func290
theorem QnC (s : ByteArray) (hs : s.size ≤ 1000000) : PS 241 [.c (.str s)] (.c (.str s)) := by
 refine PSpec.rm ?_
 refine ov0 hΓ Tryz.func241 5 0 [.tmp 2] Tryz.ntmps241 Tryz.results241 ?_
 refine QuU Qmq (QmX s hs ) (Go0 ?_)
 exact QuV
theorem QnR : HB 241 := hB Tryz.func241
def catB (l : List ByteArray) : ByteArray := l.foldl (· ++ ·) ByteArray.empty
theorem Qkk (l : List (List UInt8)) : Lib.join l [] = l.flatten := by
 cases l with
 | nil => rfl
 | cons x r =>
  rw [Lib.join_cons]
  show x ++ (r.map fun y => [] ++ y).flatten = _
  simp
theorem Ql6 : ∀ (l : List ByteArray), (∀ x ∈ l, x.size ≤ 1000) → (l.map (·.data.toList)).flatten.length ≤ l.length * 1000
 | [], _ => Qxx _
 | x :: r, h => by
  have h1 := h x (Qys ..)
  have h2 := Ql6 r fun y hy => h y (Qyi _ hy)
  have e : x.data.toList.length = x.size := rfl
  simp only [Qyz, List.flatten_cons, QxL, QxR]
  omega
theorem QkD (l : List ByteArray) : (⟨(Lib.join (l.map (·.data.toList)) []).toArray⟩ : ByteArray) = catB l := by
 have hf : ∀ (l : List ByteArray) (a : ByteArray), (l.foldl (· ++ ·) a).data.toList = a.data.toList ++ (l.map (·.data.toList)).flatten := by
  intro l
  induction l with
  | nil => intro a; simp
  | cons x r ih => intro a; rw [List.foldl_cons, ih, QyY]; simp
 apply ByteArray.ext
 apply QxV.1
 rw [Qkk]
 unfold catB
 rw [hf]
 simp
theorem Qko (l : List ByteArray) (hl : l.length ≤ 100) (hs : ∀ x ∈ l, x.size ≤ 1000) : PS 256 [.c (Qay l), .c (.str ByteArray.empty)] (.c (.str (catB l))) := by
 have hsz : (Lib.join (l.map (·.data.toList)) []).length ≤ 100000 := by
  rw [Qkk]
  have := Ql6 l hs
  omega
 refine QwL fun F μ w vs hfr hA => ?_
 obtain ⟨v0, a1, a2⟩ := hA.2 0 _ rfl
 obtain ⟨v1, b1, b2, -⟩ := hA.2 1 _ rfl
 rw [b2] at b1
 obtain ⟨a, cap, rfl, h1, h2, h3, h4, h5⟩ := a2
 obtain rfl := Qty hA.1 a1 b1
 have hcat : (catB l).size ≤ maxLen := by
  rw [← QkD]
  show (Lib.join (l.map (·.data.toList)) []).toArray.size ≤ _
  rw [QyI]
  unfold maxLen
  omega
 refine ⟨.string (catB l), fun F' μ' => ⟨rfl, hcat⟩, ?_⟩
 rw [← QkD]
 rcases h5 with h5 | ⟨b, off, rfl, h5⟩
 ·obtain rfl := Qyg h5
  refine (Any.strings_Join_none Qwl Qmf a cap ByteArray.empty w).mono ?_
  rintro e w' ⟨rfl, rfl⟩
  exact ⟨rfl, Go.RowKit.Below.refl _ _⟩
 ·have hcell : ∀ j, j < l.length → F.cell b (off + j) = some (.string (l.getD j ByteArray.empty)) := fun j hj => by
   obtain ⟨x, x1, x2, -⟩ := h5 j hj 0 om
   rw [x2] at x1
   simpa using x1
  have hw : ∀ j, j < l.length → w.cell? ⟨b, off + j, none⟩ = some (.string (l.getD j ByteArray.empty)) := fun j hj => by
   have := hcell j hj
   unfold Mem.cell at this
   unfold World.cell?
   cases hF : F b with
   | none => rw [hF] at this; cases this
   | some o =>
    rw [hF] at this
    rw [hfr b o hF]
    cases o <;> simp_all
  by_cases h0 : l.length = 0
  ·obtain rfl := Qyg h0
   refine (Any.strings_Join_none Qwl Qmf _ cap ByteArray.empty w).mono ?_
   rintro e w' ⟨rfl, rfl⟩
   exact ⟨rfl, Go.RowKit.Below.refl _ _⟩
  have hb : b < w.heap.size := by
   have := hcell 0 om
   unfold Mem.cell at this
   cases hF : F b with
   | none => rw [hF] at this; cases this
   | some o => exact (QxH.1 (hfr b o hF)).1
  exact Any.strings_Join Qwl Qmf b off cap l ByteArray.empty w (fun j x hx => by
   obtain ⟨hj, rfl⟩ := QxU.1 hx
   rw [hw j hj]
   simp [List.getD, hj]) hb om h2 (by
    show (Lib.join (l.map (·.data.toList)) []).length ≤ _
    omega)
theorem Qk2 : HB 256 := hB Tryz.func256
end Go.Proofs
end

section
open Go Go.Am
namespace Go.Proofs
set_option maxRecDepth 20000
theorem Qq7 (n : Int) (hn : 0 ≤ n ∧ n < 256) : PS 187 [.c (.int .i64 n), .c (.int .i64 1)] (.t [.inl (.str (putS n 1)), .inl (.int .i64 0)]) := by
 refine PSpec.rm ?_
 refine ov0 hΓ Tryz.func187 44 0 [.tmp 4, .tmp 5] Tryz.ntmps187 Tryz.results187 ?_
 have e : IntKind.i64.wrap (1 * 2 ^ min (IntKind.u64.wrap (IntKind.i64.wrap (8 * 1))).toNat IntKind.i64.bits) = 256 := by decide
 refine Br.no (by rw [e]; simp; omega) (Go0 ?_)
 refine Lp.mk hΓ (ι := Nat) (fun k => [(7, .c (.int .i64 k)), (6, .c (.sl 0 1 1 1 true)), (0, .c (.int .i64 n)), (1, .c (.int .i64 1))]) (fun k => [.arr 5 1 1 (putG n k)]) (fun k => k ≤ 1) (fun k => 1 - k) 0 (Qxx _) ?_ ?_
 ·exact Mv.mk' 1 rfl ⟨O.wk.arr rfl (fun i hi j hj => by
   have hj : j < 1 := hj
   have : j = 0 := by omega
   subst this
   exact wkC.imm rfl), trivial⟩ ⟨wkS.imm rfl, wkS.c (wkC.sl (by decide) rfl rfl (fun _ => rfl)), wkS.imm rfl, wkS.imm rfl, trivial⟩ (Qxx _)
 ·intro k hk
  refine Go0 ?_
  refine Br.of (fun h=>Go0 ?_) (fun h=>Go0 ?_)
  ·refine Need.mk (by rw [IntKind.wrap_u64]; omega) (Go0 ?_)
   have w0 := Qa (↑k + 1) om om
   refine ⟨k + 1, om, om, Mv.mk' 1 rfl ⟨O.wk.arr rfl (fun i hi j hj => wkC.of_eq (Qik _ _ _ _) ?_), trivial⟩ ⟨wkS.c (wkC.int (by rw [w0]; rfl)), wkS.c (wkC.sl (by decide) rfl rfl (fun e => e)), wkS.imm rfl, wkS.imm rfl, trivial⟩ (Qxx _)⟩
   have hj : j = 0 := by omega
   subst hj
   rw [QX]
   simp only [putG, putB, Qxy]
   by_cases c : i = k
   ·subst c
    simp
   ·rw [Qxu (by simp [c])]
    by_cases c2 : i < k
    ·rw [Qxt c2, Qxt om]
    ·rw [Qxu c2, Qxu om]
  ·have : k = 1 := by omega
   subst this
   refine Need.mk (fun i hi => ⟨putB n i, by simp only [putG]; rw [Qxt hi]⟩) (Go0 ?_)
   exact RM.imm rfl (wkS.t ⟨wkC.str (Qip n 1), wkC.imm rfl, trivial⟩)
theorem QkB (n : Int) (hn : 0 ≤ n ∧ n < 4294967296) : PS 187 [.c (.int .i64 n), .c (.int .i64 4)] (.t [.inl (.str (putS n 4)), .inl (.int .i64 0)]) := by
 refine PSpec.rm ?_
 refine ov0 hΓ Tryz.func187 44 0 [.tmp 4, .tmp 5] Tryz.ntmps187 Tryz.results187 ?_
 have e : IntKind.i64.wrap (1 * 2 ^ min (IntKind.u64.wrap (IntKind.i64.wrap (8 * 4))).toNat IntKind.i64.bits) = 4294967296 := by decide
 refine Br.no (by rw [e]; simp; omega) (Go0 ?_)
 refine Lp.mk hΓ (ι := Nat) (fun k => [(7, .c (.int .i64 k)), (6, .c (.sl 0 1 4 4 true)), (0, .c (.int .i64 n)), (1, .c (.int .i64 4))]) (fun k => [.arr 5 1 4 (putG n k)]) (fun k => k ≤ 4) (fun k => 4 - k) 0 (Qxx _) ?_ ?_
 ·exact Mv.mk' 1 rfl ⟨O.wk.arr rfl (fun i hi j hj => by
   have hj : j < 1 := hj
   have : j = 0 := by omega
   subst this
   exact wkC.imm rfl), trivial⟩ ⟨wkS.imm rfl, wkS.c (wkC.sl (by decide) rfl rfl (fun _ => rfl)), wkS.imm rfl, wkS.imm rfl, trivial⟩ (Qxx _)
 ·intro k hk
  refine Go0 ?_
  refine Br.of (fun h=>Go0 ?_) (fun h=>Go0 ?_)
  ·refine Need.mk (by rw [IntKind.wrap_u64]; omega) (Go0 ?_)
   have w0 := Qa (↑k + 1) om om
   refine ⟨k + 1, om, om, Mv.mk' 1 rfl ⟨O.wk.arr rfl (fun i hi j hj => wkC.of_eq (Qik _ _ _ _) ?_), trivial⟩ ⟨wkS.c (wkC.int (by rw [w0]; rfl)), wkS.c (wkC.sl (by decide) rfl rfl (fun e => e)), wkS.imm rfl, wkS.imm rfl, trivial⟩ (Qxx _)⟩
   have hj : j = 0 := by omega
   subst hj
   rw [QX]
   simp only [putG, putB, Qxy]
   by_cases c : i = k
   ·subst c
    simp
   ·rw [Qxu (by simp [c])]
    by_cases c2 : i < k
    ·rw [Qxt c2, Qxt om]
    ·rw [Qxu c2, Qxu om]
  ·have : k = 4 := by omega
   subst this
   refine Need.mk (fun i hi => ⟨putB n i, by simp only [putG]; rw [Qxt hi]⟩) (Go0 ?_)
   exact RM.imm rfl (wkS.t ⟨wkC.str (Qip n 4), wkC.imm rfl, trivial⟩)
theorem QkW (n : Int) (hn : 0 ≤ n ∧ n < 281474976710656) : PS 187 [.c (.int .i64 n), .c (.int .i64 6)] (.t [.inl (.str (putS n 6)), .inl (.int .i64 0)]) := by
 refine PSpec.rm ?_
 refine ov0 hΓ Tryz.func187 44 0 [.tmp 4, .tmp 5] Tryz.ntmps187 Tryz.results187 ?_
 have e : IntKind.i64.wrap (1 * 2 ^ min (IntKind.u64.wrap (IntKind.i64.wrap (8 * 6))).toNat IntKind.i64.bits) = 281474976710656 := by decide
 refine Br.no (by rw [e]; simp; omega) (Go0 ?_)
 refine Lp.mk hΓ (ι := Nat) (fun k => [(7, .c (.int .i64 k)), (6, .c (.sl 0 1 6 6 true)), (0, .c (.int .i64 n)), (1, .c (.int .i64 6))]) (fun k => [.arr 5 1 6 (putG n k)]) (fun k => k ≤ 6) (fun k => 6 - k) 0 (Qxx _) ?_ ?_
 ·exact Mv.mk' 1 rfl ⟨O.wk.arr rfl (fun i hi j hj => by
   have hj : j < 1 := hj
   have : j = 0 := by omega
   subst this
   exact wkC.imm rfl), trivial⟩ ⟨wkS.imm rfl, wkS.c (wkC.sl (by decide) rfl rfl (fun _ => rfl)), wkS.imm rfl, wkS.imm rfl, trivial⟩ (Qxx _)
 ·intro k hk
  refine Go0 ?_
  refine Br.of (fun h=>Go0 ?_) (fun h=>Go0 ?_)
  ·refine Need.mk (by rw [IntKind.wrap_u64]; omega) (Go0 ?_)
   have w0 := Qa (↑k + 1) om om
   refine ⟨k + 1, om, om, Mv.mk' 1 rfl ⟨O.wk.arr rfl (fun i hi j hj => wkC.of_eq (Qik _ _ _ _) ?_), trivial⟩ ⟨wkS.c (wkC.int (by rw [w0]; rfl)), wkS.c (wkC.sl (by decide) rfl rfl (fun e => e)), wkS.imm rfl, wkS.imm rfl, trivial⟩ (Qxx _)⟩
   have hj : j = 0 := by omega
   subst hj
   rw [QX]
   simp only [putG, putB, Qxy]
   by_cases c : i = k
   ·subst c
    simp
   ·rw [Qxu (by simp [c])]
    by_cases c2 : i < k
    ·rw [Qxt c2, Qxt om]
    ·rw [Qxu c2, Qxu om]
  ·have : k = 6 := by omega
   subst this
   refine Need.mk (fun i hi => ⟨putB n i, by simp only [putG]; rw [Qxt hi]⟩) (Go0 ?_)
   exact RM.imm rfl (wkS.t ⟨wkC.str (Qip n 6), wkC.imm rfl, trivial⟩)
theorem QgK : HB 187 := hB Tryz.func187
theorem Qkv : HB 187 := QgK
theorem Qkn : HB 187 := QgK
theorem Qeq (n : Int) (hn : 0 ≤ n ∧ n < 256) : PS 253 [.c (.int .i64 n), .c (.int .i64 1)] (.c (.str (putS n 1))) := by
 refine ov hΓ Tryz.func253 14 0 [.tmp 4] Tryz.ntmps253 Tryz.results253 ?_
 conv=>whnf
 refine CallN.pure QgK (Qq7 n hn ) (leA.refl rfl) rfl ?_
 ((conv=>whnf);(repeat' ((first|refine Nd ?_|refine Hv fun _h=>?_);conv=>whnf)))
theorem Qew : HB 253 := hB Tryz.func253
theorem Qhf (n : Int) (hn : 0 ≤ n ∧ n < 4294967296) : PS 253 [.c (.int .i64 n), .c (.int .i64 4)] (.c (.str (putS n 4))) := by
 refine ov hΓ Tryz.func253 14 0 [.tmp 4] Tryz.ntmps253 Tryz.results253 ?_
 conv=>whnf
 refine CallN.pure Qkv (QkB n hn ) (leA.refl rfl) rfl ?_
 ((conv=>whnf);(repeat' ((first|refine Nd ?_|refine Hv fun _h=>?_);conv=>whnf)))
theorem Qgk : HB 253 := hB Tryz.func253
theorem Qmx (n : Int) (hn : 0 ≤ n ∧ n < 281474976710656) : PS 253 [.c (.int .i64 n), .c (.int .i64 6)] (.c (.str (putS n 6))) := by
 refine ov hΓ Tryz.func253 14 0 [.tmp 4] Tryz.ntmps253 Tryz.results253 ?_
 conv=>whnf
 refine CallN.pure Qkn (QkW n hn ) (leA.refl rfl) rfl ?_
 ((conv=>whnf);(repeat' ((first|refine Nd ?_|refine Hv fun _h=>?_);conv=>whnf)))
theorem QmG : HB 253 := hB Tryz.func253
theorem Qs7 (sum : Int) (b : ByteArray) (hb : b.size ≤ 10000000) : PS 251 [.c (.int .u32 sum), .c (.str b)] (.c (.int .u32 (addU sum b))) := by
 refine ov0 hΓ Tryz.func251 37 0 [.tmp 4] Tryz.ntmps251 Tryz.results251 ?_
 refine Lp.mk hΓ (ι := Nat) (fun k => [(6, .c (.int .i64 k)), (5, .c (.int .u32 (Q1 sum b k))), (1, .c (.str b))]) (fun _ => []) (fun k => k ≤ b.size) (fun k => b.size - k) 0 (Qxx _) ?_ ?_
 ·exact Mv.mk' 0 rfl trivial ⟨wkS.imm rfl, wkS.imm rfl, wkS.imm rfl, trivial⟩ (Qxx _)
 ·intro k hk
  refine Go1 fun _h=>?_
  refine Br.of (fun h=>Go0 ?_) (fun h=>Go0 ?_)
  ·refine Lp.mk hΓ (ι := Nat) (fun j => [(7, .c (.int .i64 j)), (5, .c (.int .u32 (QaX QaL j (xorU (Q1 sum b k) (Qav b k))))), (6, .c (.int .i64 k)), (1, .c (.str b))]) (fun _ => []) (fun j => j ≤ 8) (fun j => 8 - j) 0 (Qxx _) ?_ ?_
   ·exact Mv.mk' 0 rfl trivial ⟨wkS.imm rfl, wkS.imm rfl, wkS.imm rfl, wkS.imm rfl, trivial⟩ (Qxx _)
   ·intro j hj
    refine Go0 ?_
    have w1 := Qa (↑j + 1) om om
    refine Br.of (fun h2=>Go0 ?_) (fun h2=>Go0 ?_)
    ·refine Br.of (fun h3=>Go0 ?_) (fun h3=>Go0 ?_)
     ·exact ⟨j + 1, om, om, Mv.mk' 0 rfl trivial ⟨wkS.c (wkC.int (by rw [w1]; rfl)), wkS.c (wkC.int (by simp only [QaX]; exact (Qxt h3).symm)), wkS.imm rfl, wkS.imm rfl, trivial⟩ (Qxx _)⟩
     ·exact ⟨j + 1, om, om, Mv.mk' 0 rfl trivial ⟨wkS.c (wkC.int (by rw [w1]; rfl)), wkS.c (wkC.int (by simp only [QaX]; exact (Qxu h3).symm)), wkS.imm rfl, wkS.imm rfl, trivial⟩ (Qxx _)⟩
    ·have : j = 8 := by omega
     subst this
     have w0 := Qa (↑k + 1) om om
     exact ⟨k + 1, om, om, Mv.mk' 0 rfl trivial ⟨wkS.c (wkC.int (by rw [w0]; rfl)), wkS.imm rfl, wkS.imm rfl, trivial⟩ (Qxx _)⟩
  ·have : k = b.size := by omega
   subst this
   rfl
theorem QsZ : HB 251 := hB Tryz.func251
theorem Qh9 (b : ByteArray) (hb : b.size ≤ 10000000) : PS 188 [.c (.str b)] (.c (.int .u32 (addU 0 b))) := by
 refine ov hΓ Tryz.func188 5 0 [.tmp 2] Tryz.ntmps188 Tryz.results188 ?_
 conv=>whnf
 refine CallN.pure QsZ (Qs7 0 b hb ) (leA.refl rfl) rfl ?_
 ((conv=>whnf);(repeat' ((first|refine Nd ?_|refine Hv fun _h=>?_);conv=>whnf)))
theorem Qh0 : HB 188 := hB Tryz.func188
theorem Qsb (b : ByteArray) (hb : b.size ≤ 10000000) : PS 255 [.c (.str b)] (.c (.str (b ++ putS (IntKind.i64.wrap (addU 0 b)) 4))) := by
 refine ov hΓ Tryz.func255 9 0 [.tmp 2] Tryz.ntmps255 Tryz.results255 ?_
 conv=>whnf
 refine CallN.pure Qh0 (Qh9 b hb ) (leA.refl rfl) rfl ?_
 conv=>whnf
 have hl := Qfq 0 b
 refine CallN.pure Qgk (Qhf _ (by rw [Qa _ om om]; exact hl) ) (leA.refl rfl) rfl ?_
 conv=>whnf
 refine Need.mk (by rw [QI]; omega) ?_
 ((conv=>whnf);(repeat' ((first|refine Nd ?_|refine Hv fun _h=>?_);conv=>whnf)))
theorem Qq0 : HB 255 := hB Tryz.func255
theorem Qtg (b : ByteArray) (hb : b.size ≤ 20) : PS 254 [.c (.str b), .c (.int .i64 20)] (.c (.str (padS b))) := by
 refine PSpec.rm ?_
 refine ov hΓ Tryz.func254 18 0 [.tmp 4] Tryz.ntmps254 Tryz.results254 ?_
 refine Go1 fun _h=>?_
 refine Br.of (fun h=>Go0 ?_) (fun h=>Go1 fun _h=>?_)
 ·have : b.size = 20 := by omega
  exact RM.imm rfl (wkS.c (wkC.str (by simp [padS, this])))
 ·have w0 := Qa (20 - (b.size : Int)) om om
  have n0 : ((20 : Int) - (b.size : Int)).toNat = 20 - b.size := by omega
  rw [w0]
  refine Go0 ?_
  rw [n0]
  refine Need.mk (fun i hi => ⟨0, rfl⟩) ?_
  conv=>whnf
  refine Need.mk (by rw [Qa0]; omega) (Go0 ?_)
  refine RM.imm rfl (wkS.c (wkC.str ?_))
  simp only [padS]
  rw [Qxt om]
  rfl
theorem Qsw : HB 254 := hB Tryz.func254
theorem QhU (r : Rec) : PS 252 [r.s] (.c (.int .i64 (Qm r))) := by
 refine ov0 hΓ Tryz.func252 67 0 [.tmp 2] Tryz.ntmps252 Tryz.results252 ?_
 (first|refine Qu9 (fun h1=>?_) (fun h1=>?_)|refine Br.mk (fun h1=>?_) (fun h1=>?_)<;>simp [-List.length_eq_zero_iff,-List.getD_eq_getElem?_getD] at h1)<;>(try simp only [Qxy] at h1)<;>(conv=>whnf)
 ·refine Go0 ?_
  have : decide (1 ≤ r.kind ∧ r.kind ≤ 6) = false := by simp only [QxM]; omega
  simp only [Qm, this]; rfl
 ·refine Go0 ?_
  have e1 : decide (1 ≤ r.kind ∧ r.kind ≤ 6) = true := by simp only [Qxw]; omega
  (first|refine Qu9 (fun h2=>?_) (fun h2=>?_)|refine Br.mk (fun h2=>?_) (fun h2=>?_)<;>simp [-List.length_eq_zero_iff,-List.getD_eq_getElem?_getD] at h2)<;>(try simp only [Qxy] at h2)<;>(conv=>whnf)
  ·refine Go0 ?_
   have : decide (0 ≤ r.block ∧ r.block ≤ 4294967295 ∧ 0 ≤ r.version ∧ r.version ≤ 1099511627776 ∧ 0 ≤ r.move ∧ r.move ≤ 255) = false := by simp only [QxM]; omega
   simp only [Qm, e1, this]; rfl
  ·refine Go1 fun _h=>?_
   have e2 : decide (0 ≤ r.block ∧ r.block ≤ 4294967295 ∧ 0 ≤ r.version ∧ r.version ≤ 1099511627776 ∧ 0 ≤ r.move ∧ r.move ≤ 255) = true := by simp only [Qxw]; omega
   have hz : r.payload = ⟨#[]⟩ ↔ r.payload.size = 0 := ⟨fun h => by rw [h]; rfl, QuA⟩
   refine Br.of (fun h3=>Go0 ?_) (fun h3=>Go0 ?_)
   ·have : decide (r.payload.size ≤ 20 ∧ (r.kind = 1 → r.payload.size = 16) ∧ (r.kind = 2 → r.payload.size = 0)) = false := by
     simp [Bool.cond_eq_ite] at h3
     simp only [QxM]
     rw [hz] at h3
     omega
    simp only [Qm, e1, e2, this]; rfl
   ·have : decide (r.payload.size ≤ 20 ∧ (r.kind = 1 → r.payload.size = 16) ∧ (r.kind = 2 → r.payload.size = 0)) = true := by
     simp [Bool.cond_eq_ite] at h3
     simp only [Qxw]
     rw [hz] at h3
     omega
    simp only [Qm, e1, e2, this]; rfl
theorem QhB : HB 252 := hB Tryz.func252
theorem QhM (r : Rec) : PS 189 [r.s] (.t [.inl (.str (encR r)), .inl (.int .i64 (Qm r))]) := by
 refine PSpec.rm ?_
 refine ov hΓ Tryz.func189 39 0 [.tmp 2, .tmp 3] Tryz.ntmps189 Tryz.results189 ?_
 conv=>whnf
 refine CallN.pure QhB (QhU r ) (leA.refl rfl) rfl (Go0 ?_)
 refine Br.of (fun h1=>Go0 ?_) (fun h1=>Go0 ?_)
 ·exact RM.imm rfl (wkS.t ⟨wkC.str (by rw [encR, Qxu h1]; rfl), wkC.imm rfl, trivial⟩)
 ·obtain ⟨hk, hr, hp⟩ := QaY h1
  refine Dr.mk hΓ hMix (by kernel_rfl) (Go0 ?_)
  have lit2 : ({ data := #[90, 65] } : ByteArray).size = 2 := rfl
  have lit1 : ({ data := #[0] } : ByteArray).size = 1 := rfl
  refine CallP.mk Qew (Qeq r.kind om ) (leA.refl rfl) rfl ?_
  conv=>whnf
  refine Need.mk (by simp only [QxZ, QI, QaZ _ hp, lit2, lit1]; omega) (Go0 ?_)
  refine CallP.mk Qew (Qeq r.payload.size om ) (leA.refl rfl) rfl ?_
  conv=>whnf
  refine Need.mk (by simp only [QxZ, QI, QaZ _ hp, lit2, lit1]; omega) (Go0 ?_)
  refine CallP.mk Qgk (Qhf r.block om ) (leA.refl rfl) rfl ?_
  conv=>whnf
  refine Need.mk (by simp only [QxZ, QI, QaZ _ hp, lit2, lit1]; omega) (Go0 ?_)
  refine CallP.mk QmG (Qmx r.version om ) (leA.refl rfl) rfl ?_
  conv=>whnf
  refine Need.mk (by simp only [QxZ, QI, QaZ _ hp, lit2, lit1]; omega) (Go0 ?_)
  refine CallP.mk Qew (Qeq r.move om ) (leA.refl rfl) rfl ?_
  conv=>whnf
  refine Need.mk (by simp only [QxZ, QI, QaZ _ hp, lit2, lit1]; omega) (Go0 ?_)
  refine Need.mk (by simp only [QxZ, QI, QaZ _ hp, lit2, lit1]; omega) (Go0 ?_)
  refine CallP.mk Qsw (Qtg r.payload hp ) (leA.refl rfl) rfl ?_
  conv=>whnf
  refine Need.mk (by simp only [QxZ, QI, QaZ _ hp, lit2, lit1]; omega) (Go0 ?_)
  have hb := Qd7 hp
  refine CallN.pure Qq0 (Qsb (QV r) om ) (leA.refl rfl) rfl (Go0 ?_)
  exact RM.imm rfl (wkS.t ⟨wkC.str (by rw [encR, Qxt h1]), wkC.int h1.symm, trivial⟩)
theorem QhD : HB 189 := hB Tryz.func189
theorem QdK (r : Rec) : PS 111 [r.s] (.c (.str (encR r))) := by
 refine ov hΓ Tryz.func111 11 0 [.tmp 2] Tryz.ntmps111 Tryz.results111 ?_
 conv=>whnf
 refine CallN.pure QhD (QhM r ) (leA.refl rfl) rfl ?_
 ((conv=>whnf);(repeat' ((first|refine Nd ?_|refine Hv fun _h=>?_);conv=>whnf)))
theorem Qdr : HB 111 := hB Tryz.func111
theorem QjY (d : Dev) (zone : Int) : PS 134 [d.s, .c (.int .i64 zone)] (.c (.int .i64 (QG d zone))) := by
 refine PSpec.rm ?_
 refine ov hΓ Tryz.func134 27 0 [.tmp 4] Tryz.ntmps134 Tryz.results134 ?_
 conv=>whnf
 refine CallN.pure Qcq (Qcr d ) (leA.refl rfl) rfl (Go0 ?_)
 refine Br.of (fun h1=>Go0 ?_) (fun h1=>Go0 ?_)
 ·exact RM.imm rfl (wkS.c (wkC.int (by simp only [QG, Qxu h1])))
 ·(first|refine Qu9 (fun h2=>?_) (fun h2=>?_)|refine Br.mk (fun h2=>?_) (fun h2=>?_)<;>simp [-List.length_eq_zero_iff,-List.getD_eq_getElem?_getD] at h2)<;>(try simp only [Qxy] at h2)<;>(conv=>whnf)
  ·refine Go0 ?_
   have : decide (0 ≤ zone ∧ zone < d.zones.length) = false := by simp only [QxM]; omega
   exact RM.imm rfl (wkS.c (wkC.int (by simp only [QG, Qxt h1, this]; rfl)))
  ·refine Go0 ?_
   have hr : decide (0 ≤ zone ∧ zone < d.zones.length) = true := by simp only [Qxw]; omega
   refine Br.of (fun h3=>Go0 ?_) (fun h3=>Go0 ?_)
   ·exact RM.imm rfl (wkS.c (wkC.int (by simp only [QG, Qxt h1, hr, Qxt, Qxt h3])))
   ·exact RM.imm rfl (wkS.c (wkC.int (by simp only [QG, Qxt h1, hr, Qxt, Qxu h3])))
theorem Qkd : HB 134 := hB Tryz.func134
theorem Qlw (z : Zone) : PS 265 [z.s] ((QaM z).s) := by
 refine PSpec.rm ?_
 refine ov hΓ Tryz.func265 10 0 [.cell 2 76] Tryz.ntmps265 Tryz.results265 ?_
 refine Go1 fun _h=>?_
 refine Br.of (fun h=>Go0 ?_) (fun h=>Go0 ?_)
 ·have : QaM z = ⟨0, z.durable, z.sectors⟩ := by simp only [QaM]; rw [Qxt om]
  rw [this]
  exact RM.imm rfl (wkS.imm rfl)
 ·have : QaM z = ⟨3, z.durable, z.sectors⟩ := by simp only [QaM]; rw [Qxu om]
  rw [this]
  exact RM.imm rfl (wkS.imm rfl)
theorem QlJ : HB 265 := hB Tryz.func265
theorem QdR (d : Dev) (hd : d.zones.length ≤ 10000000) (zone : Int) (hz : 0 ≤ zone ∧ zone < d.zones.length) (z : Zone) : PS 135 [d.s, .c (.int .i64 zone), z.s] (({ d with zones := d.zones.set zone.toNat z } : Dev).s) := by
 refine PSpec.rm ?_
 refine ov0 hΓ Tryz.func135 18 0 [.cell 6 29] Tryz.ntmps135 Tryz.results135 ?_
 have hk : zone.toNat < d.zones.length := by omega
 refine Qxk 3 rfl (fun i hi j hj => ?_) rfl (by simp) (fun i hi j hj => ?_)
 ·exact (QxK C.imm (QkQ hk rfl i j hj)).trans (Qbv _ _ _)
 ·exact leF.of_eq (QkQ hk rfl i j hj)
theorem QdO : HB 135 := hB Tryz.func135
end Go.Proofs
end
