/- Contracts, lemmas; no condition. -/
import Derived.Test.YtkelkepdcfogaaaGreatP11D
import Derived.Test.YtkelkepdcfogaaaGreatP30D
import Derived.Test.YtkelkepdcfogaaaGreatP15D
import Derived.Test.YtkelkepdcfogaaaGreatA38D
import Derived.Test.YtkelkepdcfogaaaGreatP25D
set_option linter.all false
section
open Go Go.Am
namespace Go.Proofs
set_option maxRecDepth 20000
def NoOff (l : List Zone) : Prop := ∀ i, (l.getD i default).state ≠ 5
theorem NoOff.set {l : List Zone} (h : NoOff l) {i : Nat} {z : Zone} (hz : z.state ≠ 5) : NoOff (l.set i z) := fun k => by
 by_cases c : i < l.length
 ·rw [QeH c]
  split
  ·exact hz
  ·exact h k
 ·rw [List.set_eq_of_length_le (by omega)]; exact h k
theorem NoOff.new (n : Nat) : NoOff (List.replicate n zone0) := fun i => by
 by_cases q : i < n
 ·rw [show (List.replicate n zone0).getD i default = zone0 by simp [List.getD, q]]; decide
 ·rw [show (List.replicate n zone0).getD i default = default by simp only [List.getD]; rw [List.getElem?_eq_none (by rw [List.length_replicate]; omega)]; rfl]; decide
theorem NoOff.reset {x : Dev} (h : NoOff x.zones) (z : Int) : NoOff (QaL x z).zones := by
 unfold QaL
 split
 ·exact NoOff.set h (by decide)
 ·exact h
theorem NoOff.finish {x : Dev} (h : NoOff x.zones) (z : Int) : NoOff (Qaq x z).zones := by
 unfold Qaq
 split
 ·exact NoOff.set h (by rw [QkX]; decide)
 ·exact h
theorem NoOff.shut {l : List Zone} (h : NoOff l) (i : Nat) : NoOff (QY l i) := by
 unfold QY
 exact h.set (by have := (QiI (l.getD i default)).2; omega)
theorem NoOff.openL {x : Dev} (h : NoOff x.zones) (z : Nat) : NoOff (openL x z) := by
 unfold Go.Am.openL
 split
 ·exact h
 ·unfold Qj
  simp only
  split
  ·exact h
  ·rename_i l hl
   have hl' : NoOff l := by
    split at hl
    ·split at hl
     ·cases hl; exact h.shut _
     ·cases hl
    ·cases hl; exact h
   split <;> exact hl'
theorem NoOff.append {x : Dev} (h : NoOff x.zones) (z : Int) (s : ByteArray) : NoOff (Qy x z s).zones := by
 unfold Qy
 split
 ·refine NoOff.set (h.openL _) ?_
  unfold grow
  split
  ·show (4 : Int) ≠ 5; decide
  ·show (if Qt _ = true then _ else (1 : Int)) ≠ 5
   split
   ·rename_i q; have := isOpen_iff.1 q; omega
   ·decide
 ·exact h
theorem Qfy {x : Dev} (h : NoOff x.zones) (Z : List Int) : ∀ k, NoOff (QcL x Z k).zones
 | 0 => h
 | k + 1 => (Qfy h Z k).reset _
theorem Qgm {c : Conf} {y : Dev} (h : NoOff y.zones) (Z : List Int) (R : List Rec) : ∀ k, NoOff (Qdo c y Z R k).zones
 | 0 => h
 | k + 1 => (Qgm h Z R k).append _ _
theorem QgQ {y : Dev} (h : NoOff y.zones) (Z : List Int) : ∀ k, NoOff (Qb8 y Z k).zones
 | 0 => h
 | k + 1 => (QgQ h Z k).finish _
theorem QtI {x : Dev} (h : NoOff x.zones) (c : Conf) (m : List (List Ent)) (next seq slot : Int) : NoOff (Qe2 c x m next seq slot).zones :=
 QgQ (Qgm (Qfy h _ _) _ _ _) _ _
theorem QiB {x : Dev} (h : x.ok) (ho : NoOff x.zones) {z : Int} (h0 : 0 ≤ z) (h1 : z < x.zones.length) : QS x z = 0 := by
 unfold QS
 rw [if_pos (check_ok.2 h), if_pos (decide_eq_true ⟨h0, h1⟩), if_neg (ho _)]
theorem Qtu {c : Conf} {slot : Int} (hc : Qn c = 0) (h0 : 0 ≤ slot) (h1 : slot ≤ 1) : ∀ k, k < (Qat c slot).length → 0 ≤ (Qat c slot).getD k default := fun k hk => by
 obtain ⟨hl, -⟩ := Qip hc h0 h1
 have hs := Qav (Qay hc).1
 rw [hl] at hk
 unfold Qat
 rw [if_pos ⟨hc, h0, h1⟩, QkV hk]
 rcases (show slot = 0 ∨ slot = 1 by omega) with rfl | rfl <;> omega
set_option maxHeartbeats 4000000 in
theorem QqJ (c : Conf) (x0 : Dev) (m : List (List Ent)) (next seq slot : Int) (hc : Qn c = 0) (hx : x0.ok) (hn : (x0.zones.length : Int) = c.zones) (hof : NoOff x0.zones) (hm : m.length ≤ 1000) (hs : ∀ i, (m.getD i default).length ≤ 1000) (ha : (allS m).length ≤ 1000000) (hb : ∀ e ∈ allS m, e.block < c.blocks) (h0 : 0 ≤ slot) (h1 : slot ≤ 1) :
  CS 40 [.a c.cells, .a x0.cells, .a [Qh m], .c (.int .i64 next), .c (.int .i64 seq), .c (.int .i64 slot)] [] fun s H => s = .a (Dev.ow (Qe2 c x0 m next seq slot) 0) ∧ H = [zO (Qe2 c x0 m next seq slot)] := by
 have hr := (Qay hc).1
 have hdn := (Qay hc).2.1
 unfold Qan at hdn
 have hcf := confR_iff.1 hr
 have hsr := Qav hr
 have hRl := QkP (next := next) (seq := seq) hc hb
 obtain ⟨hZl, hZv⟩ := Qip hc h0 h1
 have hZ0 := Qtu hc h0 h1
 rw [show Qe2 c x0 m next seq slot = Qb8 (Qdo c (QcL x0 (Qat c slot) (Qat c slot).length) (Qat c slot) (Qf9 m next seq) (Qf9 m next seq).length) (Qat c slot) (Qat c slot).length from rfl]
 have hSR : Qf9 m next seq = Qa4 seq next next ((allS m).filter fun e => e.kind == 1) := rfl
 generalize Qf9 m next seq = R at *
 refine CSpec.rm ?_
 refine ov0 hΓ Tryz.func40 112 0 [.cell 12 29] Tryz.ntmps40 Tryz.results40 ?_
 refine CallN.pureA Qkj (QkL m (fun i => by have := hs i; omega) (by omega) ) (Go0 ?_)
 generalize hA : allS m = A at *
 refine Lp.mkK hΓ (ι := Nat) [5, 6, 7, 12, 13, 14] (fun k => [(15, .c (.int .i64 k))]) (fun k => [.vr c.cells, .vr x0.cells, .vr [Qh m], .vr dev0.cells, .vr [.int .i64 seq, .int .i64 next, .int .i64 next, .sl 5 6 (QbM A k).length (QbM A k).length false], .arr 67 6 (QbM A k).length (entG (QbM A k))]) (fun k => k ≤ A.length) (fun k => A.length - k) 0 (Nat.zero_le _) ?_ ?_
 ·refine (Mv.reserveO 4 3 67 6 (entG []) rfl rfl rfl rfl).trans ?_
  exact Mv.k0
 ·intro k hk
  have hdl := Qju A k
  refine Go1 fun _h=>?_
  refine Br.of (fun h2=>Go0 ?_) (fun h2=>Go0 ?_)
  ·have w0 := Qa (↑k + 1) (by omega) (by omega)
   by_cases h3 : (A.getD k default).kind = 1
   ·refine Br.yes (by simpa using h3) (Go0 ?_)
    refine Dr.mk hΓ hMix (by kernel_rfl) (Go0 ?_)
    refine ⟨k + 1, by omega, by omega, ?_⟩
    rw [QqD (by omega) h3]
    refine Mv.k1 ?_
    exact fun i hi j hj => WC.eq (Qii (x := A.getD k default) rfl (by simpa using hi) hj) (QK _ _)
   ·refine Br.no (by simpa using h3) (Go0 ?_)
    refine ⟨k + 1, by omega, by omega, ?_⟩
    rw [QrX (by omega) h3]
    exact Mv.k0
  ·have : k = A.length := by omega
   subst this
   rw [Qjm]
   generalize hD : A.filter (fun e : Ent => e.kind == 1) = D at *
   have hDb : ∀ e ∈ D, e.block < c.blocks := fun e he => hb e (by rw [← hD] at he; exact (List.mem_filter.1 he).1)
   have hDl : D.length ≤ 1000000 := by have := Qju A A.length; rw [Qjm, hD] at this; omega
   refine CallN.fzK 5 [5, 6, 7, 12, 14] [] [.vr c.cells, .vr x0.cells, .vr [Qh m], .vr dev0.cells, .vr [.int .i64 seq, .int .i64 next, .int .i64 next, QQ D], .dead] [.a [.int .i64 seq, .int .i64 next, .int .i64 next, QQ D]] rfl leN (fun i _ j _ => QK _ _) wb0 wb0 wb0 leN ?_
   refine CallN.pureA Qkg (QkQ (Bas.mk seq next next D) hDl ) (Go0 ?_)
   refine CallN.pureA QhY (Qh4 c slot ) (Go0 ?_)
   rw [← hSR]
   generalize Qat c slot = Z at *
   refine Lp.mkK hΓ (ι := Nat) [6, 12, 16, 18, 7] (fun k => [(19, .c (.int .i64 k))]) (fun k => [.vr c.cells, .vr (QcL x0 Z k).cells, .vr [Qh m], .vr dev0.cells]) (fun k => k ≤ Z.length) (fun k => Z.length - k) 0 (Nat.zero_le _) ?_ ?_
   ·exact Mv.k0
   ·intro k hk
    have hxs := (Qdj hx hZv k hk).ok.tiny.small
    refine Go1 fun _h=>?_
    refine Br.of (fun h3=>Go0 ?_) (fun h3=>Go0 ?_)
    ·have hk' : k < Z.length := Int.ofNat_lt.1 h3
     have w0 := Qa (↑k + 1) (by omega) (by omega)
     refine Dr.mkE hΓ hMix [] [(8, 9)] (by kernel_rfl) (Go0 ?_)
     refine CallP.auto Qj3 (Qj7 (QcL x0 Z k) hxs (Z.getD k default) ) (Go0 ?_)
     refine ⟨k + 1, by omega, by omega, ?_⟩
     exact Mv.k0
    ·have : k = Z.length := Nat.le_antisymm hk (Int.ofNat_le.1 h3)
     subst this
     have hXK := Qdj hx hZv Z.length (Nat.le_refl _)
     have hXoff := Qfy hof Z Z.length
     generalize QcL x0 Z Z.length = x at *
     refine Lp.mkK hΓ (ι := Nat) [6, 12, 16, 18, 7] (fun j => [(20, .c (.int .i64 j))]) (fun j => [.vr c.cells, .vr (Qdo c x Z R j).cells, .vr [Qh m], .vr dev0.cells]) (fun j => j ≤ R.length) (fun j => R.length - j) 0 (Nat.zero_le _) ?_ ?_
     ·exact Mv.k0
     ·intro j hj
      have hys := (QdI hr hZl hXK hZv hRl j hj).ok.tiny.small
      refine Go1 fun _h=>?_
      refine Br.of (fun h4=>Go0 ?_) (fun h4=>Go0 ?_)
      ·have hj' : j < R.length := Int.ofNat_lt.1 h4
       have w0 := Qa (↑j + 1) (by omega) (by omega)
       have hdiv := Qi7 (c := c) (k := j) hr (by omega)
       have wj : IntKind.i64.wrap ((j : Int).tdiv c.size) = (j : Int).tdiv c.size := Qa _ (by omega) (by omega)
       have hix : ((j : Int).tdiv c.size).toNat < Z.length := by omega
       refine Dr.mkE hΓ hMix [] [(16, 18), (17, 18)] (by kernel_rfl) (Go0 ?_)
       refine CallP.auto Qch (Qci (R.getD j default) ) (Go0 ?_)
       rw [wj]
       refine CallP.auto Qco (Qcm (Qdo c x Z R j) hys (Z.getD ((j : Int).tdiv c.size).toNat default) (encR (R.getD j default)) ) (Go0 ?_)
       refine ⟨j + 1, by omega, by omega, ?_⟩
       exact Mv.k0
      ·have : j = R.length := Nat.le_antisymm hj (Int.ofNat_le.1 h4)
       subst this
       have hYK := QdI hr hZl hXK hZv hRl R.length (Nat.le_refl _)
       have hYoff := Qgm (c := c) hXoff Z R R.length
       generalize Qdo c x Z R R.length = y at *
       have hYo : NoOff y.zones := hYoff
       have hYn : (y.zones.length : Int) = c.zones := by rw [hYK.n]; exact hn
       refine Lp.mkK hΓ (ι := Nat) [12, 18, 7] (fun k => [(21, .c (.int .i64 k))]) (fun k => match k with
        | 0 => [.vr c.cells, .vr y.cells, .vr [Qh m], .vr dev0.cells]
        | k + 1 => [.vr c.cells, .vr (Dev.ow (Qb8 y Z (k + 1)) 4), .vr [Qh m], .vr dev0.cells, zO (Qb8 y Z (k + 1))]) (fun k => k ≤ Z.length) (fun k => Z.length - k) 0 (Nat.zero_le _) ?_ ?_
       ·exact Mv.k0
       ·rintro (_ | k) hk
        ·have hbe : QS y (Z.getD 0 default) = 0 := QiB hYK.ok hYo (hZ0 0 (by omega)) (by have := hZv 0 (by omega); omega)
         have hys := hYK.ok.tiny.small
         refine Go1 fun _h=>?_
         refine Br.of (fun h5=>?_) (fun h5=>?_)<;>(try simp only [Int.toNat_natCast] at h5)<;>(conv=>whnf)
         ·refine Go0 ?_
          refine Dr.mkE hΓ hMix [79] [(8, 9)] (by kernel_rfl) (Go0 ?_)
          refine CallE.autoI [] Qg7 (Qhx y hys (Z.getD 0 default) hbe) plh (Go0 ?_)
          refine ⟨1, by omega, by omega, ?_⟩
          show Mv _ _ _ ([(21, .c (.int .i64 1))] ++ Qad [12, 18, 7] _) [.vr c.cells, .vr (Dev.ow (Qaq y (Z.getD 0 default)) 4), .vr [Qh m], .vr dev0.cells, zO (Qaq y (Z.getD 0 default))]
          exact Mv.k0
         ·omega
        ·have hFK := Qgl (Z := Z) hYK (k + 1)
         have hxs := hFK.ok.tiny.small
         refine Go1 fun _h=>?_
         refine Br.of (fun h5=>Go0 ?_) (fun h5=>Go0 ?_)
         ·have hk' : k + 1 < Z.length := Int.ofNat_lt.1 h5
          have w0 := Qa (((k + 1 : Nat) : Int) + 1) (by omega) (by omega)
          have hbe : QS (Qb8 y Z (k + 1)) (Z.getD (k + 1) default) = 0 := QiB hFK.ok (QgQ hYo Z (k + 1)) (hZ0 _ hk') (by have := hZv _ hk'; have := hFK.n; omega)
          refine Dr.mvK [12, 18, 7, 21] [] [.vr c.cells, .vr (Qb8 y Z (k + 1)).cells, .vr [Qh m], .vr dev0.cells] ((Mv.fz (g := Qx (Qb8 y Z (k + 1)).zones) 4 rfl (Nat.zero_le _) (fun _ _ _ _ => QA _ _ _)).trans (Mv.mkW ?_ ?_ leN)) ?_
          ·exact wb0
          ·exact wb0
          conv=>whnf
          refine Dr.mkE hΓ hMix [79] [(8, 9)] (by kernel_rfl) (Go0 ?_)
          refine CallE.autoI [] Qg7 (Qhx (Qb8 y Z (k + 1)) hxs (Z.getD (k + 1) default) hbe) plh (Go0 ?_)
          refine ⟨k + 2, by omega, by omega, ?_⟩
          show Mv _ _ _ ([(21, .c (.int .i64 ((k + 2 : Nat) : Int)))] ++ Qad [12, 18, 7] _) [.vr c.cells, .vr (Dev.ow (Qaq (Qb8 y Z (k + 1)) (Z.getD (k + 1) default)) 4), .vr [Qh m], .vr dev0.cells, zO (Qaq (Qb8 y Z (k + 1)) (Z.getD (k + 1) default))]
          exact Mv.k0
         ·have : k + 1 = Z.length := Nat.le_antisymm hk (Int.ofNat_le.1 h5)
          rw [← this]
          generalize Qb8 y Z (k + 1) = x1 at *
          refine ⟨.a (Dev.ow x1 0), [zO x1], ?_, rfl, rfl⟩
          exact RM.renW [4] (by decide) wb0 wb0
theorem Qqm : HB 40 := hB Tryz.func40
def SzD (d : Dev) : Prop := ∀ k, ∀ s ∈ (d.zones.getD k default).sectors, s.size ≤ 40
theorem SzD.new (n : Nat) (a b e : Int) : SzD ⟨a, b, e, List.replicate n zone0⟩ := fun i s hs => by
 exfalso
 have : ((List.replicate n zone0).getD i default).sectors = [] := by
  by_cases q : i < n
  ·rw [show (List.replicate n zone0).getD i default = zone0 by simp [List.getD, q]]; rfl
  ·rw [show (List.replicate n zone0).getD i default = default by simp only [List.getD]; rw [List.getElem?_eq_none (by rw [List.length_replicate]; omega)]; rfl]; rfl
 rw [show ((⟨a, b, e, List.replicate n zone0⟩ : Dev).zones.getD i default).sectors = [] from this] at hs
 cases hs
theorem SzD.append {x : Dev} (h : SzD x) (z : Int) {s : ByteArray} (hs : s.size ≤ 40) : SzD (Qy x z s) := fun k t ht => by
 rw [Qf3] at ht
 split at ht
 ·rcases List.mem_append.1 ht with q | q
  ·exact h k t q
  ·rw [List.mem_singleton] at q; subst q; exact hs
 ·exact h k t ht
theorem SzD.reset {x : Dev} (h : SzD x) (z : Int) : SzD (QaL x z) := fun k t ht => by
 unfold QaL at ht
 split at ht
 ·rename_i q
  have hz := (Qac q).2
  have ht : t ∈ ((x.zones.set z.toNat zone0).getD k default).sectors := ht
  by_cases c : k = z.toNat
  ·subst c
   rw [show (x.zones.set z.toNat zone0).getD z.toNat default = zone0 by simp only [List.getD]; rw [List.getElem?_set_self (by omega)]; rfl] at ht
   cases ht
  ·rw [gset c] at ht
   exact h k t ht
 ·exact h k t ht
theorem SzD.finish {x : Dev} (h : SzD x) (z : Int) : SzD (Qaq x z) := fun k t ht => by
 rw [finish_sec] at ht
 exact h k t ht
theorem Qli (r : Rec) : (encR r).size ≤ 40 := by
 by_cases h : QC r = 0
 ·exact Nat.le_of_eq (QgY h)
 ·unfold encR
  rw [if_neg h]
  decide
theorem QjJ {x : Dev} (h : SzD x) (Z : List Int) : ∀ k, SzD (QcL x Z k)
 | 0 => h
 | k + 1 => (QjJ h Z k).reset _
theorem Qko {c : Conf} {y : Dev} (h : SzD y) (Z : List Int) (R : List Rec) : ∀ k, SzD (Qdo c y Z R k)
 | 0 => h
 | k + 1 => (Qko h Z R k).append _ (Qli _)
theorem QnN {y : Dev} (h : SzD y) (Z : List Int) : ∀ k, SzD (Qb8 y Z k)
 | 0 => h
 | k + 1 => (QnN h Z k).finish _
theorem Qvg {x : Dev} (h : SzD x) (c : Conf) (m : List (List Ent)) (next seq slot : Int) : SzD (Qe2 c x m next seq slot) :=
 QnN (Qko (QjJ h _ _) _ _ _) _ _
theorem bwD {H : List O} {id : Nat} {x : Dev} (h : getL H id = some (zO x)) : BwS H (.a (Dev.ow x id)) x.s :=
 BwS.a (BwL.cons (Bw.same rfl) (BwL.cons (Bw.same rfl) (BwL.cons (Bw.same rfl) (BwL.cons (Bw.sl h rfl (fun i _ j _ => Bw.same (QA _ _ _)) (fun e => by cases e)) BwL.nil))))
set_option maxHeartbeats 8000000 in
theorem Qp0 (l : List Int) (hl : l.length ≤ 10000000) : CS 9 [.c (QbY l)] [] fun s H => ∃ p : Conf × Dev, (Good p.1 p.2 ∧ SzD p.2) ∧ s = .t [.inr p.1.cells, .inr (Dev.ow p.2 0)] ∧ H = [zO p.2] := by
 have ok0 : DiceM.ok ⟨l, 0⟩ := ⟨Nat.zero_le _, hl⟩
 have hc := QmQ ⟨l, 0⟩
 have hcr := (Qay hc)
 have hcf := confR_iff.1 hcr.1
 have hsr := Qav hcr.1
 obtain ⟨n1, n2⟩ := Qlk hc
 have okD : DiceM.ok (QiO ⟨l, 0⟩) := ok0.step.step.step.step.step.step
 refine CSpec.rm ?_
 refine CSpec.of_aw hΓ Tryz.func9 180 0 [.cell 2 26, .cell 3 29] Tryz.ntmps9 ?_
 refine AWn.seq hΓ (Go0 ?_)
 refine AWn.seq hΓ (Go0 ?_)
 refine CallN.autoQ [] QkR (QkC l hl) (Go0 ?_)
 refine AWn.seq hΓ (Go0 ?_)
 refine CallN.autoQ [2] Qjh (Qjy ⟨l, 0⟩ ok0) (Go0 ?_)
 generalize hC : Qcc ⟨l, 0⟩ = c at *
 generalize hD : QiO ⟨l, 0⟩ = D0 at *
 refine AWn.seq hΓ (Go0 ?_)
 refine CallN.pureA Qqk (QqG c hc ) (Go0 ?_)
 refine AWn.seq hΓ (Go0 ?_)
 have hof : NoOff (newX c.zones c.size 3 3).zones ∧ SzD (newX c.zones c.size 3 3) := ⟨NoOff.new _, SzD.new _ _ _ _⟩
 refine CallN.autoI [] Qsh (QsB c.zones c.size 3 3 n1) plh (Go0 ?_)
 refine AWn.seq hΓ (Go0 ?_)
 refine CallN.pureA QgV (Qhd 1 (by decide) (by decide) ) (Go0 ?_)
 rw [show List.replicate (Int.toNat 1) ([] : List Ent) = [[]] from rfl]
 generalize hM0 : ([[]] : List (List Ent)) = m0 at *
 refine AWn.seq hΓ (Go0 ?_)
 generalize newX c.zones c.size 3 3 = x0 at *
 refine AWn.seq hΓ (Go0 ?_)
 refine Lp.mkA (ι := DiceM × Dev × List (List Ent) × Int × Nat) [2, 3, 4, 5, 6] (fun p => [(8, .c (.ptr 5 0)), (10, .c (.ptr 6 0)), (12, .c (.int .i64 p.2.2.2.1)), (13, .c (.int .i64 p.2.2.2.2))]) (fun p => [.vr [.int .i64 0, .int .i64 0, .int .i64 0, .int .i64 0, .int .i64 0, .int .i64 0], .vr [.int .i64 0, .int .i64 0, .int .i64 0, .nils], .vr p.1.cells, .vr c.cells, .vr (Lay.cells c), .vr (Dev.ow p.2.1 7), .vr [Qh p.2.2.1], zO p.2.1]) (fun p => p.1.ok ∧ MInv c p.2.1 p.2.2.1 p.2.2.2.2 ∧ (NoOff p.2.1.zones ∧ SzD p.2.1) ∧ p.2.2.2.2 ≤ 30) (fun p => 30 - p.2.2.2.2) (D0, x0, m0, 1, 0) ⟨okD, n2, hof, Nat.zero_le _⟩ ?_ ?_
 ·show Mv _ _ _ ([(8, .c (.ptr 5 0)), (10, .c (.ptr 6 0)), (12, .c (.int .i64 1)), (13, .c (.int .i64 0))] ++ Qad [2, 3, 4, 5, 6] _) [.vr [.int .i64 0, .int .i64 0, .int .i64 0, .int .i64 0, .int .i64 0, .int .i64 0], .vr [.int .i64 0, .int .i64 0, .int .i64 0, .nils], .vr D0.cells, .vr c.cells, .vr (Lay.cells c), .vr (Dev.ow x0 7), .vr [Qh m0], zO x0]
  exact Mv.renW [0, 1, 2, 3, 4, 6, 7, 5] (by decide) (fun i hi => absurd hi (Nat.not_lt_zero _)) (Nat.zero_le _) wb0 wb0
 ·rintro ⟨D, x, m, v, k⟩ ⟨hD, hI, hof, hk⟩
  have hD : D.ok := hD
  have hI : MInv c x m k := hI
  have hof : NoOff x.zones ∧ SzD x := hof
  have hk : k ≤ 30 := hk
  have hml := hI.ml
  have hms : ∀ i, (m.getD i default).length ≤ 1000000 := fun i => by have := hI.len i; omega
  refine AWn.seq hΓ (Go0 ?_)
  refine CallG.keepQ [2] QsH (Qtc D hD) wb0 wb0 (Go0 ?_)
  by_cases h1 : k < 30 ∧ 0 < D.rest
  ·refine Br.yes (by rw [show (((D, x, m, v, k) : DiceM × Dev × List (List Ent) × Int × Nat).2.2.2.2 : Int) = (k : Int) from rfl, decide_eq_true (by omega : (k : Int) < 30), decide_eq_true (by omega : D.rest > 0)]; rfl) (Go0 ?_)
   refine AWn.assoc ?_
   refine AWn.block ?_
   refine AWn.seq hΓ (Go0 ?_)
   refine CallN.autoQ [2] Qpf (Qo1 D hD c.blocks v) (Go0 ?_)
   have hD1 : (recD D).ok := hD.step.step.step
   generalize recD D = D1 at *
   have hr0 : (recR D c.blocks v).block < c.blocks := Qro D (by omega) (by omega)
   generalize recR D c.blocks v = r0 at *
   refine AWn.seq hΓ (Go0 ?_)
   refine Dr.mkE hΓ hMix [34] [(0, 5), (1, 5)] (by kernel_rfl) (Go0 ?_)
   refine CallE.autoQ [2] QaN (QaM D1 hD1 (Qan c)) (Go0 ?_)
   have hz0 := D1.next_range (n := Qan c) (by omega) (by unfold Qan; omega)
   have hzw : IntKind.i64.wrap (2 * Qi c + D1.next (Qan c)) = 2 * Qi c + D1.next (Qan c) := Qa _ (by unfold Qan at *; omega) (by unfold Qan at *; omega)
   rw [hzw]
   have hzz : 2 * Qi c ≤ 2 * Qi c + D1.next (Qan c) := by omega
   generalize 2 * Qi c + D1.next (Qan c) = z at *
   have hD2 := hD1.step
   generalize D1.step = D2 at *
   refine AWn.join hΓ (ι := DiceM × Rec × Int) [2, 3, 4, 5, 6, 8, 10, 13, 14, 15] (fun p => [(12, .c (.int .i64 p.2.2))]) (fun p => [.vr [.int .i64 0, .int .i64 0, .int .i64 0, .int .i64 0, .int .i64 0, .int .i64 0], .vr [.int .i64 0, .int .i64 0, .int .i64 0, .nils], .vr p.1.cells, .vr c.cells, .vr (Lay.cells c), .vr (Dev.ow x 7), .vr [Qh m], zO x, .vr p.2.1.cells]) (fun p => p.1.ok ∧ p.2.1.block < c.blocks) ?_ ?_
   ·refine Go0 ?_
    refine CallN.pureA Qjz (QjL m r0.block (by omega) hms ) (Go0 ?_)
    refine CallG.autoQ [2] QaN (QaM D2 hD2 3) (fun hg => ?_) (fun hg => ?_) <;> (conv=>whnf)
    ·refine Go0 ?_
     obtain ⟨o1, o2⟩ := hI.ent.find hg
     by_cases h2 : D2.next 3 = 2
     ·refine Br.yes (by rw [hg, h2]; rfl) (Go0 ?_)
      generalize (Qbi m r0.block).1 = old at *
      refine CallN.reads Qlm (Qlq x old.zone old.offset) (BwA.cons (bwD rfl) (BwA.cons (BwS.c (Bw.same rfl)) (BwA.cons (BwS.c (Bw.same rfl)) BwA.nil))) rfl (Go0 ?_)
      refine CallN.pureA Qev (QeR (QcU x old.zone old.offset) ) (Go0 ?_)
      refine CallN.pureA Qrw (Qq0 (decR (QcU x old.zone old.offset)) ) (Go0 ?_)
      refine ⟨(D2.step, (QgE (decR (QcU x old.zone old.offset))).1, v), ⟨hD2.step, hI.copy (by omega) o1.2 (by omega)⟩, ?_⟩
      exact Mv.k0
     ·refine Br.no (by rw [hg]; simpa using h2) (Go0 ?_)
      refine ⟨(D2.step, r0, IntKind.i64.wrap (v + 1)), ⟨hD2.step, hr0⟩, ?_⟩
      exact Mv.k0
    ·refine Go0 ?_
     refine Br.no (by rw [hg]; rfl) (Go0 ?_)
     refine ⟨(D2, r0, IntKind.i64.wrap (v + 1)), ⟨hD2, hr0⟩, ?_⟩
     exact Mv.k0
   ·rintro ⟨D3, r, v2⟩ ⟨hD3, hrb⟩
    have hD3 : D3.ok := hD3
    have hrb : r.block < c.blocks := hrb
    have hxs := hI.ok.tiny.small
    by_cases hE : QV x z (encR r) = 0
    ·refine AWn.seq hΓ ?_
     conv=>whnf
     refine Dr.mvK [2, 3, 4, 5, 6, 8, 10, 12, 13, 14, 15] [] [.vr [.int .i64 0, .int .i64 0, .int .i64 0, .int .i64 0, .int .i64 0, .int .i64 0], .vr [.int .i64 0, .int .i64 0, .int .i64 0, .nils], .vr D3.cells, .vr c.cells, .vr (Lay.cells c), .vr x.cells, .vr [Qh m], .dead, .vr r.cells] ((Mv.fz (g := Qx x.zones) 7 rfl (Nat.zero_le _) (fun _ _ _ _ => QA _ _ _)).trans (Mv.mkW ?_ ?_ leN)) ?_
     ·exact wb0
     ·exact wb0
     conv=>whnf
     refine Dr.mkL hΓ hMix [29] [(7, 10), (8, 10), (9, 4)] 4 9 (by kernel_rfl) (Go0 ?_)
     refine CallP.auto Qch (Qci r ) (Go0 ?_)
     refine CallE.autoI [] QmX (QmP x hxs z (encR r) hE) plh (Go0 ?_)
     refine AWn.seq hΓ (Go0 ?_)
     refine Br.no rfl (Go0 ?_)
     have hY := hI.append z (s := encR r) (Qsa hrb (by omega))
     have hYo : NoOff (Qy x z (encR r)).zones ∧ SzD (Qy x z (encR r)) := ⟨NoOff.append hof.1 z (encR r), hof.2.append z (Qli r)⟩
     generalize Qy x z (encR r) = y at *
     generalize Qa7 x z (encR r) = at_ at *
     refine AWn.seq hΓ (Go0 ?_)
     refine AWn.seq hΓ (Go0 ?_)
     refine AWn.join hΓ (ι := List (List Ent)) [2, 3, 4, 5, 6, 12, 13] (fun _ => [(8, .c (.ptr 5 0)), (10, .c (.ptr 6 0))]) (fun m2 => [.vr [.int .i64 0, .int .i64 0, .int .i64 0, .int .i64 0, .int .i64 0, .int .i64 0], .vr [.int .i64 0, .int .i64 0, .int .i64 0, .nils], .vr D3.cells, .vr c.cells, .vr (Lay.cells c), .vr (Dev.ow y 7), .vr [Qh m2], zO y]) (fun m2 => MInv c y m2 (k + 1)) ?_ ?_
     ·refine Go0 ?_
      refine CallN.pureA Qjz (QjL m r.block (by omega) hms ) (Go0 ?_)
      by_cases h2 : (Qbi m r.block).2 = true ∧ (Qbi m r.block).1.version = r.version
      ·refine Br.yes (by show (bif (Qbi m r.block).2 then (Qbi m r.block).1.version == r.version else false) = true; rw [h2.1, h2.2]; simp) (Go0 ?_)
       generalize (Qbi m r.block).1 = old at *
       refine CallN.pureA QoX (QoC m r.block r.version old.zone old.offset z at_ r.move (by omega) hms ) (Go0 ?_)
       refine ⟨(relM m r.block r.version old.zone old.offset z at_ r.move).1, hY.rel hzz, ?_⟩
       show Mv _ _ _ ([(8, .c (.ptr 5 0)), (10, .c (.ptr 6 0))] ++ Qad [2, 3, 4, 5, 6, 12, 13] _) [.vr [.int .i64 0, .int .i64 0, .int .i64 0, .int .i64 0, .int .i64 0, .int .i64 0], .vr [.int .i64 0, .int .i64 0, .int .i64 0, .nils], .vr D3.cells, .vr c.cells, .vr (Lay.cells c), .vr (Dev.ow y 7), .vr [Qh (relM m r.block r.version old.zone old.offset z at_ r.move).1], zO y]
       refine Mv.renW [0, 1, 2, 3, 4, 5, 6, 9] (by decide) (fun i hi => absurd hi (Nat.not_lt_zero _)) (Nat.zero_le _) ?_ ?_
       ·exact wb0
       ·exact wb0
      ·refine Br.no (by
        show (bif (Qbi m r.block).2 then (Qbi m r.block).1.version == r.version else false) = false
        cases q : (Qbi m r.block).2 with
        | false => rfl
        | true => simpa using fun w => h2 ⟨q, w⟩) ?_
       refine Go0 ?_
       refine CallN.pureA Qge (Qgk m ⟨r.block, r.kind, r.version, r.move, z, at_⟩ (by omega) hms ) (Go0 ?_)
       refine ⟨(Qaz m ⟨r.block, r.kind, r.version, r.move, z, at_⟩).1, hY.inst ⟨hrb, hzz⟩, ?_⟩
       show Mv _ _ _ ([(8, .c (.ptr 5 0)), (10, .c (.ptr 6 0))] ++ Qad [2, 3, 4, 5, 6, 12, 13] _) [.vr [.int .i64 0, .int .i64 0, .int .i64 0, .int .i64 0, .int .i64 0, .int .i64 0], .vr [.int .i64 0, .int .i64 0, .int .i64 0, .nils], .vr D3.cells, .vr c.cells, .vr (Lay.cells c), .vr (Dev.ow y 7), .vr [Qh (Qaz m ⟨r.block, r.kind, r.version, r.move, z, at_⟩).1], zO y]
       refine Mv.renW [0, 1, 2, 3, 4, 5, 6, 9] (by decide) (fun i hi => absurd hi (Nat.not_lt_zero _)) (Nat.zero_le _) ?_ ?_
       ·exact wb0
       ·exact wb0
     ·intro m2 hI2
      have hI2 : MInv c y m2 (k + 1) := hI2
      have hw1 : IntKind.i64.wrap ((k : Int) + 1) = ((k + 1 : Nat) : Int) := by rw [Qa _ (by omega) (by omega)]; omega
      refine AWn.ofVc hΓ (Go0 ?_)
      refine CallN.autoQ [2] QaN (QaM D3 hD3 9) (Go0 ?_)
      by_cases h3 : D3.next 9 = 8
      ·refine Br.yes (by simpa using h3) (Go0 ?_)
       have hs2 := D3.step.next_range (n := 2) (by omega) (by omega)
       have hal := QtH hI2.ml hI2.len
       have hI3 := hI2.save hc v2 (IntKind.i64.wrap (1 + k)) hs2.1 (show D3.step.next 2 ≤ 1 by omega)
       have hI4 := And.intro (QtI hYo.1 c m2 v2 (IntKind.i64.wrap (1 + k)) (D3.step.next 2)) (Qvg hYo.2 c m2 v2 (IntKind.i64.wrap (1 + k)) (D3.step.next 2))
       have hsv := QqJ c y m2 v2 (IntKind.i64.wrap (1 + k)) (D3.step.next 2) hc hI2.ok hI2.n hYo.1 (by have := hI2.ml; omega) (fun i => by have := hI2.len i; omega) (by omega) (fun e he => (hI2.ent.all e he).1) hs2.1 (by omega)
       generalize Qe2 c y m2 v2 (IntKind.i64.wrap (1 + k)) (D3.step.next 2) = y2 at *
       refine Dr.mvK [2, 3, 4, 5, 6, 8, 10, 12, 13] [] [.vr [.int .i64 0, .int .i64 0, .int .i64 0, .int .i64 0, .int .i64 0, .int .i64 0], .vr [.int .i64 0, .int .i64 0, .int .i64 0, .nils], .vr D3.step.cells, .vr c.cells, .vr (Lay.cells c), .vr y.cells, .vr [Qh m2]] ((Mv.fz (g := Qx y.zones) 7 rfl (Nat.zero_le _) (fun _ _ _ _ => QA _ _ _)).trans (Mv.mkW ?_ ?_ leN)) ?_
       ·exact wb0
       ·exact wb0
       conv=>whnf
       refine Dr.mkE hΓ hMix [34, 40] [(0, 7), (1, 7), (2, 7), (3, 7), (4, 7), (5, 7)] (by kernel_rfl) (Go0 ?_)
       refine CallE.autoQ [2] QaN (QaM D3.step hD3.step 2) (Go0 ?_)
       refine CallE.autoI [] Qqm hsv plh (Go0 ?_)
       refine AWn.ofVc hΓ (Go0 ?_)
       refine ⟨(D3.step.step, y2, m2, v2, k + 1), ⟨hD3.step.step, hI3, hI4, by show k + 1 ≤ 30; omega⟩, by show 30 - (k + 1) < 30 - k; omega, ?_⟩
       rw [show IntKind.i64.wrap ((((D, x, m, v, k) : DiceM × Dev × List (List Ent) × Int × Nat).2.2.2.2 : Int) + 1) = ((k + 1 : Nat) : Int) from hw1]
       show Mv _ _ _ ([(8, .c (.ptr 5 0)), (10, .c (.ptr 6 0)), (12, .c (.int .i64 v2)), (13, .c (.int .i64 ((k + 1 : Nat) : Int)))] ++ Qad [2, 3, 4, 5, 6] _) [.vr [.int .i64 0, .int .i64 0, .int .i64 0, .int .i64 0, .int .i64 0, .int .i64 0], .vr [.int .i64 0, .int .i64 0, .int .i64 0, .nils], .vr D3.step.step.cells, .vr c.cells, .vr (Lay.cells c), .vr (Dev.ow y2 7), .vr [Qh m2], zO y2]
       exact Mv.k0
      ·refine Br.no (by simpa using h3) (Go0 ?_)
       refine AWn.ofVc hΓ (Go0 ?_)
       refine ⟨(D3.step, y, m2, v2, k + 1), ⟨hD3.step, hI2, hYo, by show k + 1 ≤ 30; omega⟩, by show 30 - (k + 1) < 30 - k; omega, ?_⟩
       rw [show IntKind.i64.wrap ((((D, x, m, v, k) : DiceM × Dev × List (List Ent) × Int × Nat).2.2.2.2 : Int) + 1) = ((k + 1 : Nat) : Int) from hw1]
       show Mv _ _ _ ([(8, .c (.ptr 5 0)), (10, .c (.ptr 6 0)), (12, .c (.int .i64 v2)), (13, .c (.int .i64 ((k + 1 : Nat) : Int)))] ++ Qad [2, 3, 4, 5, 6] _) [.vr [.int .i64 0, .int .i64 0, .int .i64 0, .int .i64 0, .int .i64 0, .int .i64 0], .vr [.int .i64 0, .int .i64 0, .int .i64 0, .nils], .vr D3.step.cells, .vr c.cells, .vr (Lay.cells c), .vr (Dev.ow y 7), .vr [Qh m2], zO y]
       exact Mv.k0
    ·refine AWn.seq hΓ ?_
     conv=>whnf
     refine Dr.thawS hΓ hMix [(7, 10), (8, 10)] [2, 3, 4, 5, 6, 8, 10, 12, 13] [(8, .c (.ip 4 (lget x.cells))), (14, .c (.ip 5 (lget r.cells))), (15, .c (.int .i64 z))] ?_ (by rfl) (by kernel_rfl) ?_
     ·refine .cons (BwS.c (Bw.ptr (n := 4) rfl fun j hj => ?_)) (.cons (BwS.c (Bw.ptr (n := 5) rfl fun j hj => ?_)) (.cons (BwS.c (Bw.same rfl)) .nil))
      ·match j, hj with
       | 0, _ => exact ⟨_, rfl, Bw.same rfl⟩
       | 1, _ => exact ⟨_, rfl, Bw.same rfl⟩
       | 2, _ => exact ⟨_, rfl, Bw.same rfl⟩
       | 3, _ => exact ⟨_, rfl, Bw.sl rfl rfl (fun i _ j _ => Bw.same (QA _ _ _)) (fun e => by cases e)⟩
      ·match j, hj with
       | 0, _ => exact ⟨_, rfl, Bw.same rfl⟩
       | 1, _ => exact ⟨_, rfl, Bw.same rfl⟩
       | 2, _ => exact ⟨_, rfl, Bw.same rfl⟩
       | 3, _ => exact ⟨_, rfl, Bw.same rfl⟩
       | 4, _ => exact ⟨_, rfl, Bw.same rfl⟩
     ·refine Go0 ?_
      refine CallP.auto Qch (Qci r ) (Go0 ?_)
      refine CallP.auto Qco (Qcm x hxs z (encR r) ) (Go0 ?_)
      refine ⟨[(24, .c (.int .i64 (QV x z (encR r))))], ?_, rfl, ?_⟩
      ·exact wb0
      refine AWn.seq hΓ (Go0 ?_)
      refine Br.yes (by simpa using hE) (Go0 ?_)
      refine AWn.ofVc hΓ (Go0 ?_)
      have hw1 : IntKind.i64.wrap ((k : Int) + 1) = ((k + 1 : Nat) : Int) := by rw [Qa _ (by omega) (by omega)]; omega
      refine ⟨(D3, x, m, v2, k + 1), ⟨hD3, hI.mono (Nat.le_succ k), hof, by show k + 1 ≤ 30; omega⟩, by show 30 - (k + 1) < 30 - k; omega, ?_⟩
      rw [show IntKind.i64.wrap ((((D, x, m, v, k) : DiceM × Dev × List (List Ent) × Int × Nat).2.2.2.2 : Int) + 1) = ((k + 1 : Nat) : Int) from hw1]
      show Mv _ _ _ ([(8, .c (.ptr 5 0)), (10, .c (.ptr 6 0)), (12, .c (.int .i64 v2)), (13, .c (.int .i64 ((k + 1 : Nat) : Int)))] ++ Qad [2, 3, 4, 5, 6] _) [.vr [.int .i64 0, .int .i64 0, .int .i64 0, .int .i64 0, .int .i64 0, .int .i64 0], .vr [.int .i64 0, .int .i64 0, .int .i64 0, .nils], .vr D3.cells, .vr c.cells, .vr (Lay.cells c), .vr (Dev.ow x 7), .vr [Qh m], zO x]
      exact Mv.k0
  ·refine Br.no (Bool.eq_false_iff.2 fun q => h1 ?_) ?_
   ·rw [show (((D, x, m, v, k) : DiceM × Dev × List (List Ent) × Int × Nat).2.2.2.2 : Int) = (k : Int) from rfl] at q
    by_cases w1 : (k : Int) < 30
    ·rw [decide_eq_true w1] at q
     exact ⟨by omega, of_decide_eq_true q⟩
    ·rw [decide_eq_false w1] at q
     cases q
   ·refine Go0 ?_
    refine AWn.ofVc hΓ (Go0 ?_)
    refine Dr.mkE hΓ hMix [] [(1, 2)] (by kernel_rfl) (Go0 ?_)
    refine ⟨.t [.inr c.cells, .inr (Dev.ow x 0)], [zO x], ?_, (c, x), ⟨⟨hc, hI.ok, hI.n, hI.size⟩, hof.2⟩, rfl, rfl⟩
    exact RM.renW [7] (by decide) wb0 wb0
theorem Qrx : HB 9 := hB Tryz.func9
theorem Qu3 {b : Bas} {l : List Fnd} {e : Ent} : ∀ {k : Nat}, e ∈ Qal b l k → ∃ f, QO b l e.block = some f ∧ e = ⟨e.block, f.r.kind, f.r.version, f.r.move, f.zone, f.offset⟩ ∧ f.r.block = e.block
 | 0, h => by cases h
 | k + 1, h => by
  rcases List.mem_append.1 h with h | h
  ·exact Qu3 h
  ·unfold QaI at h
   split at h
   ·cases h
   ·rename_i f hf
    split at h
    ·rw [List.mem_singleton] at h
     subst h
     exact ⟨f, hf, rfl, (Qiz hf).2.1.1⟩
    ·cases h
theorem QrP {l : List ByteArray} {M : Nat} {v : ByteArray} (hM : M < l.length) (a : Nat) : updG (strG l) M 0 [.str v] a 0 = .str ((l.set M v).getD a ByteArray.empty) := by
 rw [Qbm]
 by_cases c : a = M
 ·subst c
  rw [if_pos ⟨rfl, rfl⟩, List.getD_eq_getElem?_getD, List.getElem?_set_self hM]
  rfl
 ·rw [if_neg (fun q => c q.1), List.getD_eq_getElem?_getD, List.getElem?_set_ne (fun q => c q.symm), ← List.getD_eq_getElem?_getD]
  rfl
theorem Qs0 {d : Dev} (hd : d.tiny) {K : Nat} (hK : K < d.zones.length) {l : List ByteArray} (hl : l.length = (d.zones.getD K default).sectors.length) : Dev.tiny { d with zones := d.zones.set K { d.zones.getD K default with sectors := l } } := by
 refine ⟨by show (d.zones.set _ _).length ≤ 100; rw [List.length_set]; exact hd.z, fun i => ?_⟩
 show ((d.zones.set K _).getD i default).sectors.length ≤ 100
 by_cases c : i = K
 ·subst c
  rw [show (d.zones.set i { d.zones.getD i default with sectors := l }).getD i default = { d.zones.getD i default with sectors := l } by rw [List.getD_eq_getElem?_getD, List.getElem?_set_self hK]; rfl]
  show l.length ≤ 100
  rw [hl]
  exact hd.s i
 ·rw [gset c]
  exact hd.s i
theorem wcU {L : List Zone} {K id m n i j : Nat} {x : Bool} (h : id < n) : WC idN n (updG (Qx L) K 2 [.sl id 1 m m x] i j) (updG (Qx L) K 2 [.sl id 1 m m x] i j) := by
 rw [Qbm]
 split
 ·exact WC.bel (by show Nat.blt id n = true; simpa using h)
 ·exact WC.imm (QA _ _ _)
theorem _root_.Go.Am.AWn.mvK {X : Cx} {c : Code} {ts : Ts} {H : List O} {k : Kp} (kp : List Nat) (st : Ts) (H' : List O) (hm : Mv X ts H (st ++ Qad kp ts) H') (h : AWn X c (st ++ Qad kp ts) H' k) : AWn X c ts H k := ⟨AW.mv hm h.out⟩
end Go.Proofs
end
