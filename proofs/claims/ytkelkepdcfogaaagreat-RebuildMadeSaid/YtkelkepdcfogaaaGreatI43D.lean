/- Contracts, lemmas; no condition. -/
import Derived.Test.YtkelkepdcfogaaaGreatP11D
import Derived.Test.YtkelkepdcfogaaaGreatP31D
import Derived.Test.YtkelkepdcfogaaaGreatP30D
import Derived.Test.YtkelkepdcfogaaaGreatP15D
set_option linter.all false
open Go Go.Am
namespace Go.Proofs
set_option maxRecDepth 20000
theorem QtZ {x : Dev} (h : x.ok) (what at_ by_ : Int) : (oddD x what at_ by_).tiny := by
 have hz : x.zones.length ≤ 32 ∧ ∀ i, (x.zones.getD i default).sectors.length ≤ 64 := by
  have hc := confOk_iff.1 h.conf
  refine ⟨hc.n.2, fun i => ?_⟩
  by_cases hi : i < x.zones.length
  ·have := (h.all.get hi).len
   have := hc.size.2
   omega
  ·rw [show x.zones.getD i default = default by simp [List.getD, Nat.le_of_not_lt hi]]
   exact Nat.zero_le _
 obtain ⟨z1, z2⟩ := hz
 have key : ∀ (k : Nat) (z : Zone), z.sectors.length ≤ 100 → ∀ x' : Dev, x'.zones = x.zones.set k z → x'.tiny := fun k z hz x' hx => by
  refine ⟨by rw [hx, List.length_set]; omega, fun i => ?_⟩
  rw [hx]
  by_cases c : i = k
  ·subst c
   by_cases hi : i < x.zones.length
   ·rw [List.getD_eq_getElem?_getD, List.getElem?_set_self hi]
    exact hz
   ·rw [List.getD_eq_getElem?_getD, List.getElem?_eq_none (by rw [List.length_set]; omega)]
    exact Nat.zero_le _
  ·rw [gset c]
   have := z2 i
   omega
 have same : ∀ x' : Dev, x'.zones = x.zones → x'.tiny := fun x' hx => ⟨by rw [hx]; omega, fun i => by rw [hx]; have := z2 i; omega⟩
 unfold oddD
 split
 ·exact same _ rfl
 ·have hk := z2 (modI at_ x.zones.length).toNat
  dsimp only
  split
  ·exact key _ _ (by show (x.zones.getD _ default).sectors.length ≤ 100; omega) _ rfl
  ·split
   ·exact key _ _ (by show (x.zones.getD _ default).sectors.length ≤ 100; omega) _ rfl
   ·split
    ·exact key _ _ (by show ((x.zones.getD _ default).sectors ++ _).length ≤ 100; rw [List.length_append, List.length_singleton]; omega) _ rfl
    ·split
     ·exact same _ rfl
     ·split
      ·exact same _ rfl
      ·split
       ·exact same _ rfl
       ·split
        ·exact ⟨Nat.zero_le _, fun i => by show (([] : List Zone).getD i default).sectors.length ≤ 100; exact Nat.zero_le _⟩
        ·split
         ·exact key _ _ (Nat.zero_le _) _ rfl
         ·exact same _ rfl
set_option maxHeartbeats 8000000 in
theorem QqN (l : List Int) (what at_ by_ : Int) : PS 3 [.c (QbY l), .c (.int .i64 what), .c (.int .i64 at_), .c (.int .i64 by_)] (.c (.bool true)) := by
 refine PSpec.rm ?_
 refine CSpec.of_aw hΓ Tryz.func3 128 0 [.tmp 8] Tryz.ntmps3 ?_
 refine AWn.seq hΓ ?_
 ((conv=>whnf);(repeat' ((first|refine Nd ?_|refine Hv fun _h=>?_);conv=>whnf)))
 refine AWn.seq hΓ ?_
 ((conv=>whnf);(repeat' ((first|refine Nd ?_|refine Hv fun _h=>?_);conv=>whnf)))
 refine CallN.pureA QqV (Qqe l ) ?_
 ((conv=>whnf);(repeat' ((first|refine Nd ?_|refine Hv fun _h=>?_);conv=>whnf)))
 by_cases h1 : l.length ≤ 300
 ·refine Br.no (by rw [decide_eq_true h1]; rfl) ?_
  ((conv=>whnf);(repeat' ((first|refine Nd ?_|refine Hv fun _h=>?_);conv=>whnf)))
  refine AWn.seq hΓ ?_
  ((conv=>whnf);(repeat' ((first|refine Nd ?_|refine Hv fun _h=>?_);conv=>whnf)))
  refine CallN.exQ [] Qrx (Qp0 l (by omega)) (fun p hp => ?_) (by decide) wb0 rfl wb0
  obtain ⟨c, d⟩ := p
  have hG : Good c d := hp.1
  clear hp
  have hd := hG.ok.tiny
  have hcf := confR_iff.1 (Qay hG.conf).1
  have hzn := hG.n
  have hzl := hd.z
  have hm := Qdk (x := at_) (n := d.zones.length) (by omega) (by omega)
  have hk : (modI at_ d.zones.length).toNat < d.zones.length := by omega
  have hs := hd.s (modI at_ d.zones.length).toNat
  ((conv=>whnf);(repeat' ((first|refine Nd ?_|refine Hv fun _h=>?_);conv=>whnf)))
  refine AWn.mvK [1, 2, 3] [(9, .c (.ptr 1 0)), (10, .c (.ptr 2 0))] [zO d, .vr c.cells, .vr (Dev.ow d 0)] ?_ ?_
  ·refine Mv.k1 ?_
   ·exact fun i _ j _ => WC.reI (QA _ _ _)
  obtain ⟨o1, o2⟩ := Qik c d
  refine AWn.freeze [1, 2, 3, 9, 10] [(9, .c (.ip 6 (lget c.cells))), (10, .c (.ip 4 (lget d.cells)))] ?_ ?_
  ·refine .cons (BwS.c (Bw.ptr (n := 6) rfl fun j hj => ?_)) (.cons (BwS.c (Bw.ptr (n := 4) rfl fun j hj => ?_)) .nil)
   ·match j, hj with
    | 0, _ => exact ⟨_, rfl, Bw.same rfl⟩
    | 1, _ => exact ⟨_, rfl, Bw.same rfl⟩
    | 2, _ => exact ⟨_, rfl, Bw.same rfl⟩
    | 3, _ => exact ⟨_, rfl, Bw.same rfl⟩
    | 4, _ => exact ⟨_, rfl, Bw.same rfl⟩
    | 5, _ => exact ⟨_, rfl, Bw.same rfl⟩
   ·match j, hj with
    | 0, _ => exact ⟨_, rfl, Bw.same rfl⟩
    | 1, _ => exact ⟨_, rfl, Bw.same rfl⟩
    | 2, _ => exact ⟨_, rfl, Bw.same rfl⟩
    | 3, _ => exact ⟨_, rfl, Bw.sl rfl rfl (fun i _ j _ => Bw.same (QA _ _ _)) (fun e => by cases e)⟩
  refine AWz.rg hΓ rfl ?_
  ((conv=>whnf);(repeat' ((first|refine Nd ?_|refine Hv fun _h=>?_);conv=>whnf)))
  refine CallN.pureA Qgz (Qf4 c d hd ) ?_
  ((conv=>whnf);(repeat' ((first|refine Nd ?_|refine Hv fun _h=>?_);conv=>whnf)))
  refine AWz.rg hΓ rfl ?_
  ((conv=>whnf);(repeat' ((first|refine Nd ?_|refine Hv fun _h=>?_);conv=>whnf)))
  refine CallN.pureA Qhu (QhB c d hd ) ?_
  ((conv=>whnf);(repeat' ((first|refine Nd ?_|refine Hv fun _h=>?_);conv=>whnf)))
  refine AWz.rgNo hΓ rfl ?_
  generalize QbQ c d = Y at *
  generalize QH c d = e at *
  ((conv=>whnf);(repeat' ((first|refine Nd ?_|refine Hv fun _h=>?_);conv=>whnf)))
  rw [show (e != e) = false by simp]
  ((conv=>whnf);(repeat' ((first|refine Nd ?_|refine Hv fun _h=>?_);conv=>whnf)))
  refine CallG.auto Qhw (fun _ => QgT Y Y o1 o2 ) ?_
  ((conv=>whnf);(repeat' ((first|refine Nd ?_|refine Hv fun _h=>?_);conv=>whnf)))
  refine ⟨by rw [decide_eq_true rfl]; rfl, ?_⟩
  refine AWz.leave [(11, .c (.ptr 0 0)), (13, .c (.ptr 1 0))] [.vr [.junk, .junk, .junk, .junk], .vr [.junk, .junk, .junk, .junk]] ?_ rfl (.cons rfl (.cons rfl .nil)) [(11, .c (.ptr 3 0)), (13, .c (.ptr 4 0))] [zO d, .vr c.cells, .vr (Dev.ow d 0), .vr [.junk, .junk, .junk, .junk], .vr [.junk, .junk, .junk, .junk]] rfl rfl ?_
  ·refine Mv.mkW ?_ ?_ leN <;> (first|exact wb0|refine wb1 ?_|refine wb2 ?_ ?_|refine wb3 ?_ ?_ ?_|refine wb4 ?_ ?_ ?_ ?_)
   all_goals exact WC.junk
  refine AWn.join hΓ (ι := Conf × Dev) [] (fun _ => [(9, .c (.ptr 0 0)), (10, .c (.ptr 1 0)), (11, .c (.ptr 2 0)), (13, .c (.ptr 3 0))]) (fun p => [.vr p.1.cells, .vr p.2.cells, .vr [.junk, .junk, .junk, .junk], .vr [.junk, .junk, .junk, .junk]]) (fun p => p.2.tiny) ?_ ?_
  ·((conv=>whnf);(repeat' ((first|refine Nd ?_|refine Hv fun _h=>?_);conv=>whnf)))
   refine CallN.pureA QaC (QaB what 4 ) ?_
   ((conv=>whnf);(repeat' ((first|refine Nd ?_|refine Hv fun _h=>?_);conv=>whnf)))
   refine Br.of (fun m0=>?_) (fun m0=>?_)<;>(try simp only [Int.toNat_natCast] at m0)<;>(conv=>whnf)
   ·((conv=>whnf);(repeat' ((first|refine Nd ?_|refine Hv fun _h=>?_);conv=>whnf)))
    refine CallN.fzK 0 [2, 3] [(9, .c (.ptr 1 0)), (10, .c (.ptr 2 0)), (11, .c (.ptr 3 0)), (13, .c (.ptr 4 0))] [.dead, .vr c.cells, .vr d.cells, .vr [.junk, .junk, .junk, .junk], .vr [.junk, .junk, .junk, .junk]] [.a d.cells, .c (.int .i64 at_), .c (.int .i64 by_), .c (.int .i64 at_)] rfl (Nat.zero_le _) (fun _ _ _ _ => QA _ _ _) wb0 wb0 wb0 leN ?_
    refine CallN.pureA Qud (Qur d hd.small at_ by_ at_ ) ?_
    ((conv=>whnf);(repeat' ((first|refine Nd ?_|refine Hv fun _h=>?_);conv=>whnf)))
    refine ⟨(c, oddD d at_ by_ at_), QtZ hG.ok _ _ _, ?_⟩
    exact Mv.renW [1, 2, 3, 4] (by decide) (fun i hi => absurd hi (Nat.not_lt_zero _)) (Nat.zero_le _) wb0 wb0
   ·((conv=>whnf);(repeat' ((first|refine Nd ?_|refine Hv fun _h=>?_);conv=>whnf)))
    refine Br.of (fun m1=>?_) (fun m1=>?_)<;>(try simp only [Int.toNat_natCast] at m1)<;>(conv=>whnf)
    ·((conv=>whnf);(repeat' ((first|refine Nd ?_|refine Hv fun _h=>?_);conv=>whnf)))
     refine CallN.pureA QaC (QaB by_ 7 ) ?_
     ((conv=>whnf);(repeat' ((first|refine Nd ?_|refine Hv fun _h=>?_);conv=>whnf)))
     refine ⟨({ c with blocks := IntKind.i64.wrap (1 + modI by_ 7) }, d), hd, ?_⟩
     refine (Mv.fz (g := Qx d.zones) 0 rfl (Nat.zero_le _) (fun _ _ _ _ => QA _ _ _)).trans ?_
     exact Mv.renW [1, 2, 3, 4] (by decide) (fun i hi => absurd hi (Nat.not_lt_zero _)) (Nat.zero_le _) wb0 wb0
    ·((conv=>whnf);(repeat' ((first|refine Nd ?_|refine Hv fun _h=>?_);conv=>whnf)))
     refine Br.of (fun m2=>?_) (fun m2=>?_)<;>(try simp only [Int.toNat_natCast] at m2)<;>(conv=>whnf)
     ·((conv=>whnf);(repeat' ((first|refine Nd ?_|refine Hv fun _h=>?_);conv=>whnf)))
      refine Dr.mk hΓ hMix (by kernel_rfl) ?_; conv=>whnf
      ((conv=>whnf);(repeat' ((first|refine Nd ?_|refine Hv fun _h=>?_);conv=>whnf)))
      refine CallP.auto QaC (QaB at_ d.zones.length ) ?_
      ((conv=>whnf);(repeat' ((first|refine Nd ?_|refine Hv fun _h=>?_);conv=>whnf)))
      refine Frc.mk (.c (Qbq (d.zones.getD (modI at_ d.zones.length).toNat default).sectors)) rfl ?_
      ((conv=>whnf);(repeat' ((first|refine Nd ?_|refine Hv fun _h=>?_);conv=>whnf)))
      refine Br.of (fun m3=>?_) (fun m3=>?_)<;>(try simp only [Int.toNat_natCast] at m3)<;>(conv=>whnf)
      ·((conv=>whnf);(repeat' ((first|refine Nd ?_|refine Hv fun _h=>?_);conv=>whnf)))
       refine Frc.mk (.c (Qbq (d.zones.getD (modI at_ d.zones.length).toNat default).sectors)) rfl ?_
       ((conv=>whnf);(repeat' ((first|refine Nd ?_|refine Hv fun _h=>?_);conv=>whnf)))
       generalize hK : (modI at_ d.zones.length).toNat = K at *
       generalize hS : (d.zones.getD K default).sectors = secs at *
       have hby := Qdk (x := by_) (n := secs.length) (by omega) (by omega)
       rw [show 0 + secs.length = secs.length from Nat.zero_add _]
       refine Dr.mvK [2, 3, 9, 10, 11, 13] [(15, .c (.ep 0 K 0 d.zones.length)), (16, .c (.int .i64 secs.length))] [.arr 46 3 d.zones.length (updG (Qx d.zones) K 2 [.sl 5 1 secs.length secs.length false]), .vr c.cells, .vr (Dev.ow d 0), .vr [.junk, .junk, .junk, .junk], .vr [.junk, .junk, .junk, .junk], .arr 9 1 secs.length (strG secs)] ?_ ?_
       ·refine Mv.k3 ?_ ?_ ?_
        ·exact fun i _ j _ => wcU leN
        ·exact fun i _ j _ => WC.eq (by simp [appG, strG]) rfl
        ·exact WC.bel rfl
       ·refine Dr.mk hΓ hMix (by kernel_rfl) ?_; conv=>whnf
        ((conv=>whnf);(repeat' ((first|refine Nd ?_|refine Hv fun _h=>?_);conv=>whnf)))
        refine Frc.mk (.c (.sl 5 1 secs.length secs.length false)) (by rw [Qbm]; rw [if_pos ⟨rfl, rfl⟩]) ?_
        ((conv=>whnf);(repeat' ((first|refine Nd ?_|refine Hv fun _h=>?_);conv=>whnf)))
        refine CallP.auto QaC (QaB by_ secs.length ) ?_
        ((conv=>whnf);(repeat' ((first|refine Nd ?_|refine Hv fun _h=>?_);conv=>whnf)))
        refine CallP.auto QaC (QaB by_ 9 ) ?_
        ((conv=>whnf);(repeat' ((first|refine Nd ?_|refine Hv fun _h=>?_);conv=>whnf)))
        refine CallP.auto QaC (QaB at_ 40 ) ?_
        ((conv=>whnf);(repeat' ((first|refine Nd ?_|refine Hv fun _h=>?_);conv=>whnf)))
        refine CallP.auto Qgf (Qgp by_ ) ?_
        ((conv=>whnf);(repeat' ((first|refine Nd ?_|refine Hv fun _h=>?_);conv=>whnf)))
        refine CallP.auto Qch (Qci ⟨1, modI by_ 9, IntKind.i64.wrap (1 + modI at_ 40), 0, QfK by_⟩ ) ?_
        ((conv=>whnf);(repeat' ((first|refine Nd ?_|refine Hv fun _h=>?_);conv=>whnf)))
        generalize encR ⟨1, modI by_ 9, IntKind.i64.wrap (1 + modI at_ 40), 0, QfK by_⟩ = v at *
        generalize hM : (modI by_ secs.length).toNat = M at *
        have hml : M < secs.length := by omega
        have hgs : ∀ a, a < secs.length → updG (strG secs) M 0 [.str v] a 0 = .str ((secs.set M v).getD a ByteArray.empty) := fun a ha => QrP hml a
        have key := QpG (L := d.zones) (id := 5) (x := false) hk (m := secs.length) (secs := secs.set M v) (by simp) hgs
        refine ⟨(c, { d with zones := d.zones.set K { d.zones.getD K default with sectors := secs.set M v } }), Qs0 hd hk (by rw [hS]; simp), ?_⟩
        refine (Mv.fz (g := updG (strG secs) M 0 [.str v]) 5 rfl (Nat.zero_le _) (fun i hi j hj => ?_)).trans ?_
        ·have : j = 0 := by have hj' : j < 1 := hj; omega
         subst this
         exact (congrArg C.imm (hgs i hi)).trans rfl
        refine (Mv.fz 0 rfl (Nat.zero_le _) (fun i _ j hj => (key i j hj).2)).trans ?_
        refine Mv.renW [1, 2, 3, 4] (by decide) (fun i hi => absurd hi (Nat.not_lt_zero _)) (Nat.zero_le _) ?_ ?_ <;> (first|exact wb0|refine wb1 ?_|refine wb2 ?_ ?_|refine wb3 ?_ ?_ ?_|refine wb4 ?_ ?_ ?_ ?_)
        exact WC.fz rfl (by simp) (fun i _ j hj => (key i j hj).1) (fun e => by cases e)
      ·((conv=>whnf);(repeat' ((first|refine Nd ?_|refine Hv fun _h=>?_);conv=>whnf)))
       refine ⟨(c, d), hd, ?_⟩
       refine (Mv.fz (g := Qx d.zones) 0 rfl (Nat.zero_le _) (fun _ _ _ _ => QA _ _ _)).trans ?_
       exact Mv.renW [1, 2, 3, 4] (by decide) (fun i hi => absurd hi (Nat.not_lt_zero _)) (Nat.zero_le _) wb0 wb0
     ·((conv=>whnf);(repeat' ((first|refine Nd ?_|refine Hv fun _h=>?_);conv=>whnf)))
      refine ⟨(c, d), hd, ?_⟩
      refine (Mv.fz (g := Qx d.zones) 0 rfl (Nat.zero_le _) (fun _ _ _ _ => QA _ _ _)).trans ?_
      exact Mv.renW [1, 2, 3, 4] (by decide) (fun i hi => absurd hi (Nat.not_lt_zero _)) (Nat.zero_le _) wb0 wb0
  ·rintro ⟨c', x⟩ hx
   have hx : x.tiny := hx
   show AWn _ _ ([(9, .c (.ptr 0 0)), (10, .c (.ptr 1 0)), (11, .c (.ptr 2 0)), (13, .c (.ptr 3 0))] ++ _) [.vr c'.cells, .vr x.cells, .vr [.junk, .junk, .junk, .junk], .vr [.junk, .junk, .junk, .junk]] _
   obtain ⟨n1, n2⟩ := Qik c' x
   refine AWn.seq hΓ ?_
   ((conv=>whnf);(repeat' ((first|refine Nd ?_|refine Hv fun _h=>?_);conv=>whnf)))
   refine CallN.pureA Qgz (Qf4 c' x hx ) ?_
   ((conv=>whnf);(repeat' ((first|refine Nd ?_|refine Hv fun _h=>?_);conv=>whnf)))
   refine AWn.seq hΓ ?_
   ((conv=>whnf);(repeat' ((first|refine Nd ?_|refine Hv fun _h=>?_);conv=>whnf)))
   refine CallN.pureA Qhu (QhB c' x hx ) ?_
   ((conv=>whnf);(repeat' ((first|refine Nd ?_|refine Hv fun _h=>?_);conv=>whnf)))
   generalize QbQ c' x = Z at *
   generalize QH c' x = ez at *
   refine AWn.ofVc hΓ ?_
   ((conv=>whnf);(repeat' ((first|refine Nd ?_|refine Hv fun _h=>?_);conv=>whnf)))
   rw [show (ez == ez) = true by simp]
   ((conv=>whnf);(repeat' ((first|refine Nd ?_|refine Hv fun _h=>?_);conv=>whnf)))
   refine CallG.auto Qhw (fun _ => QgT Z Z n1 n2 ) ?_
   ((conv=>whnf);(repeat' ((first|refine Nd ?_|refine Hv fun _h=>?_);conv=>whnf)))
   rw [decide_eq_true (show Z = Z from rfl)]
   ((conv=>whnf);(repeat' ((first|refine Nd ?_|refine Hv fun _h=>?_);conv=>whnf)))
   refine CallG.auto Qjw (fun _ => Qje ) ?_
   ((conv=>whnf);(repeat' ((first|refine Nd ?_|refine Hv fun _h=>?_);conv=>whnf)))
   exact RM.i0
 ·refine Br.yes (by rw [decide_eq_false h1]; rfl) ?_
  ((conv=>whnf);(repeat' ((first|refine Nd ?_|refine Hv fun _h=>?_);conv=>whnf)))
  refine CallN.pureA Qjw (Qje ) ?_
  ((conv=>whnf);(repeat' ((first|refine Nd ?_|refine Hv fun _h=>?_);conv=>whnf)))
  exact RM.i0
end Go.Proofs
