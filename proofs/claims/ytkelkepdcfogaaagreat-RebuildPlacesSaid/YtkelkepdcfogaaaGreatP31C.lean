/- Contracts, lemmas; no condition. -/
import Derived.Test.YtkelkepdcfogaaaGreatP11C
import Derived.Test.YtkelkepdcfogaaaGreatP30C
import Derived.Test.YtkelkepdcfogaaaGreatP15C
import Derived.Test.YtkelkepdcfogaaaGreatA38C
import Derived.Test.YtkelkepdcfogaaaGreatP25C
set_option linter.all false
section
open Go Go.Am
namespace Go.Proofs
set_option maxRecDepth 20000
def NoOff (l : List Zone) : Prop := ∀ i, (l.getD i default).state ≠ 5
theorem NoOff.set {l : List Zone} (h : NoOff l) {i : Nat} {z : Zone} (hz : z.state ≠ 5) : NoOff (l.set i z) := fun k => by
 by_cases c : i < l.length
 ·rw [Qdm c]
  split
  ·exact hz
  ·exact h k
 ·rw [List.set_eq_of_length_le (by omega)]; exact h k
theorem NoOff.new (n : Nat) : NoOff (List.replicate n zone0) := fun i => by
 by_cases q : i < n
 ·rw [show (List.replicate n zone0).getD i default = zone0 by simp [List.getD, q]]; decide
 ·rw [show (List.replicate n zone0).getD i default = default by simp only [List.getD]; rw [List.getElem?_eq_none (by rw [List.length_replicate]; omega)]; rfl]; decide
theorem NoOff.reset {x : Dev} (h : NoOff x.zones) (z : Int) : NoOff (QaI x z).zones := by
 unfold QaI
 split
 ·exact NoOff.set h (by decide)
 ·exact h
theorem NoOff.finish {x : Dev} (h : NoOff x.zones) (z : Int) : NoOff (Qam x z).zones := by
 unfold Qam
 split
 ·exact NoOff.set h (by rw [QkJ]; decide)
 ·exact h
theorem NoOff.shut {l : List Zone} (h : NoOff l) (i : Nat) : NoOff (QV l i) := by
 unfold QV
 exact h.set (by have := (QiT (l.getD i default)).2; omega)
theorem NoOff.openL {x : Dev} (h : NoOff x.zones) (z : Nat) : NoOff (openL x z) := by
 unfold Go.Am.openL
 split
 ·exact h
 ·unfold Qj
  simp only
  split
  ·exact h
  ·rename_i l hl
   have hl' : NoOff l := by
    split at hl
    ·split at hl
     ·cases hl; exact h.shut _
     ·cases hl
    ·cases hl; exact h
   split <;> exact hl'
theorem NoOff.append {x : Dev} (h : NoOff x.zones) (z : Int) (s : ByteArray) : NoOff (Qw x z s).zones := by
 unfold Qw
 split
 ·refine NoOff.set (h.openL _) ?_
  unfold grow
  split
  ·show (4 : Int) ≠ 5; decide
  ·show (if Qt _ = true then _ else (1 : Int)) ≠ 5
   split
   ·rename_i q; have := isOpen_iff.1 q; omega
   ·decide
 ·exact h
theorem Qfs {x : Dev} (h : NoOff x.zones) (Z : List Int) : ∀ k, NoOff (Qct x Z k).zones
 | 0 => h
 | k + 1 => (Qfs h Z k).reset _
theorem QfV {c : Conf} {y : Dev} (h : NoOff y.zones) (Z : List Int) (R : List Rec) : ∀ k, NoOff (Qde c y Z R k).zones
 | 0 => h
 | k + 1 => (QfV h Z R k).append _ _
theorem QgN {y : Dev} (h : NoOff y.zones) (Z : List Int) : ∀ k, NoOff (Qb0 y Z k).zones
 | 0 => h
 | k + 1 => (QgN h Z k).finish _
theorem QtY {x : Dev} (h : NoOff x.zones) (c : Conf) (m : List (List Ent)) (next seq slot : Int) : NoOff (QeU c x m next seq slot).zones :=
 QgN (QfV (Qfs h _ _) _ _ _) _ _
theorem Qjk {x : Dev} (h : x.ok) (ho : NoOff x.zones) {z : Int} (h0 : 0 ≤ z) (h1 : z < x.zones.length) : QN x z = 0 := by
 unfold QN
 rw [if_pos (check_ok.2 h), if_pos (decide_eq_true ⟨h0, h1⟩), if_neg (ho _)]
theorem Qub {c : Conf} {slot : Int} (hc : Qm c = 0) (h0 : 0 ≤ slot) (h1 : slot ≤ 1) : ∀ k, k < (Qaq c slot).length → 0 ≤ (Qaq c slot).getD k default := fun k hk => by
 obtain ⟨hl, -⟩ := Qh0 hc h0 h1
 have hs := Qao (Qat hc).1
 rw [hl] at hk
 unfold Qaq
 rw [if_pos ⟨hc, h0, h1⟩, Qk1 hk]
 rcases (show slot = 0 ∨ slot = 1 by omega) with rfl | rfl <;> omega
set_option maxHeartbeats 4000000 in
theorem Qqc (c : Conf) (x0 : Dev) (m : List (List Ent)) (next seq slot : Int) (hc : Qm c = 0) (hx : x0.ok) (hn : (x0.zones.length : Int) = c.zones) (hof : NoOff x0.zones) (hm : m.length ≤ 1000) (hs : ∀ i, (m.getD i default).length ≤ 1000) (ha : (allS m).length ≤ 1000000) (hb : ∀ e ∈ allS m, e.block < c.blocks) (h0 : 0 ≤ slot) (h1 : slot ≤ 1) :
  CS 40 [.a c.cells, .a x0.cells, .a [Qh m], .c (.int .i64 next), .c (.int .i64 seq), .c (.int .i64 slot)] [] fun s H => s = .a (Dev.ow (QeU c x0 m next seq slot) 0) ∧ H = [zO (QeU c x0 m next seq slot)] := by
 have hr := (Qat hc).1
 have hdn := (Qat hc).2.1
 unfold Qaj at hdn
 have hcf := confR_iff.1 hr
 have hsr := Qao hr
 have hRl := QjY (next := next) (seq := seq) hc hb
 obtain ⟨hZl, hZv⟩ := Qh0 hc h0 h1
 have hZ0 := Qub hc h0 h1
 rw [show QeU c x0 m next seq slot = Qb0 (Qde c (Qct x0 (Qaq c slot) (Qaq c slot).length) (Qaq c slot) (QfO m next seq) (QfO m next seq).length) (Qaq c slot) (Qaq c slot).length from rfl]
 have hSR : QfO m next seq = Qa0 seq next next ((allS m).filter fun e => e.kind == 1) := rfl
 generalize QfO m next seq = R at *
 refine CSpec.rm ?_
 refine ov0 hΓ Tryz.func40 112 0 [.cell 12 29] Tryz.ntmps40 Tryz.results40 ?_
 refine CallN.pureA Qe9 (QeN m (fun i => by have := hs i; omega) (by omega) ) (Go0 ?_)
 generalize hA : allS m = A at *
 refine Lp.mkK hΓ (ι := Nat) [5, 6, 7, 12, 13, 14] (fun k => [(15, .c (.int .i64 k))]) (fun k => [.vr c.cells, .vr x0.cells, .vr [Qh m], .vr dev0.cells, .vr [.int .i64 seq, .int .i64 next, .int .i64 next, .sl 5 6 (QbL A k).length (QbL A k).length false], .arr 67 6 (QbL A k).length (entG (QbL A k))]) (fun k => k ≤ A.length) (fun k => A.length - k) 0 (Nat.zero_le _) ?_ ?_
 ·refine (Mv.reserveO 4 3 67 6 (entG []) rfl rfl rfl rfl).trans ?_
  exact Mv.k0
 ·intro k hk
  have hdl := Qiw A k
  refine Go1 fun _h=>?_
  refine Br.of (fun h2=>Go0 ?_) (fun h2=>Go0 ?_)
  ·have w0 := Qa (↑k + 1) (by omega) (by omega)
   by_cases h3 : (A.getD k default).kind = 1
   ·refine Br.yes (by simpa using h3) (Go0 ?_)
    refine Dr.mk hΓ hMix (by kernel_rfl) (Go0 ?_)
    refine ⟨k + 1, by omega, by omega, ?_⟩
    rw [Qp9 (by omega) h3]
    refine Mv.k1 ?_
    exact fun i hi j hj => WC.eq (Qia (x := A.getD k default) rfl (by simpa using hi) hj) (QH _ _)
   ·refine Br.no (by simpa using h3) (Go0 ?_)
    refine ⟨k + 1, by omega, by omega, ?_⟩
    rw [Qrz (by omega) h3]
    exact Mv.k0
  ·have : k = A.length := by omega
   subst this
   rw [Qjp]
   generalize hD : A.filter (fun e : Ent => e.kind == 1) = D at *
   have hDb : ∀ e ∈ D, e.block < c.blocks := fun e he => hb e (by rw [← hD] at he; exact (List.mem_filter.1 he).1)
   have hDl : D.length ≤ 1000000 := by have := Qiw A A.length; rw [Qjp, hD] at this; omega
   refine CallN.fzK 5 [5, 6, 7, 12, 14] [] [.vr c.cells, .vr x0.cells, .vr [Qh m], .vr dev0.cells, .vr [.int .i64 seq, .int .i64 next, .int .i64 next, QS D], .dead] [.a [.int .i64 seq, .int .i64 next, .int .i64 next, QS D]] rfl leN (fun i _ j _ => QH _ _) wb0 wb0 wb0 leN ?_
   refine CallN.pureA Qj1 (Qko (Bas.mk seq next next D) hDl ) (Go0 ?_)
   refine CallN.pureA Qhz (QhR c slot ) (Go0 ?_)
   rw [← hSR]
   generalize Qaq c slot = Z at *
   refine Lp.mkK hΓ (ι := Nat) [6, 12, 16, 18, 7] (fun k => [(19, .c (.int .i64 k))]) (fun k => [.vr c.cells, .vr (Qct x0 Z k).cells, .vr [Qh m], .vr dev0.cells]) (fun k => k ≤ Z.length) (fun k => Z.length - k) 0 (Nat.zero_le _) ?_ ?_
   ·exact Mv.k0
   ·intro k hk
    have hxs := (Qc4 hx hZv k hk).ok.tiny.small
    refine Go1 fun _h=>?_
    refine Br.of (fun h3=>Go0 ?_) (fun h3=>Go0 ?_)
    ·have hk' : k < Z.length := Int.ofNat_lt.1 h3
     have w0 := Qa (↑k + 1) (by omega) (by omega)
     refine Dr.mkE hΓ hMix [] [(8, 9)] (by kernel_rfl) (Go0 ?_)
     refine CallP.auto QjD (QjG (Qct x0 Z k) hxs (Z.getD k default) ) (Go0 ?_)
     refine ⟨k + 1, by omega, by omega, ?_⟩
     exact Mv.k0
    ·have : k = Z.length := Nat.le_antisymm hk (Int.ofNat_le.1 h3)
     subst this
     have hXK := Qc4 hx hZv Z.length (Nat.le_refl _)
     have hXoff := Qfs hof Z Z.length
     generalize Qct x0 Z Z.length = x at *
     refine Lp.mkK hΓ (ι := Nat) [6, 12, 16, 18, 7] (fun j => [(20, .c (.int .i64 j))]) (fun j => [.vr c.cells, .vr (Qde c x Z R j).cells, .vr [Qh m], .vr dev0.cells]) (fun j => j ≤ R.length) (fun j => R.length - j) 0 (Nat.zero_le _) ?_ ?_
     ·exact Mv.k0
     ·intro j hj
      have hys := (QdI hr hZl hXK hZv hRl j hj).ok.tiny.small
      refine Go1 fun _h=>?_
      refine Br.of (fun h4=>Go0 ?_) (fun h4=>Go0 ?_)
      ·have hj' : j < R.length := Int.ofNat_lt.1 h4
       have w0 := Qa (↑j + 1) (by omega) (by omega)
       have hdiv := QiJ (c := c) (k := j) hr (by omega)
       have wj : IntKind.i64.wrap ((j : Int).tdiv c.size) = (j : Int).tdiv c.size := Qa _ (by omega) (by omega)
       have hix : ((j : Int).tdiv c.size).toNat < Z.length := by omega
       refine Dr.mkE hΓ hMix [] [(16, 18), (17, 18)] (by kernel_rfl) (Go0 ?_)
       refine CallP.auto Qcz (QcC (R.getD j default) ) (Go0 ?_)
       rw [wj]
       refine CallP.auto Qca (Qcg (Qde c x Z R j) hys (Z.getD ((j : Int).tdiv c.size).toNat default) (encR (R.getD j default)) ) (Go0 ?_)
       refine ⟨j + 1, by omega, by omega, ?_⟩
       exact Mv.k0
      ·have : j = R.length := Nat.le_antisymm hj (Int.ofNat_le.1 h4)
       subst this
       have hYK := QdI hr hZl hXK hZv hRl R.length (Nat.le_refl _)
       have hYoff := QfV (c := c) hXoff Z R R.length
       generalize Qde c x Z R R.length = y at *
       have hYo : NoOff y.zones := hYoff
       have hYn : (y.zones.length : Int) = c.zones := by rw [hYK.n]; exact hn
       refine Lp.mkK hΓ (ι := Nat) [12, 18, 7] (fun k => [(21, .c (.int .i64 k))]) (fun k => match k with
        | 0 => [.vr c.cells, .vr y.cells, .vr [Qh m], .vr dev0.cells]
        | k + 1 => [.vr c.cells, .vr (Dev.ow (Qb0 y Z (k + 1)) 4), .vr [Qh m], .vr dev0.cells, zO (Qb0 y Z (k + 1))]) (fun k => k ≤ Z.length) (fun k => Z.length - k) 0 (Nat.zero_le _) ?_ ?_
       ·exact Mv.k0
       ·rintro (_ | k) hk
        ·have hbe : QN y (Z.getD 0 default) = 0 := Qjk hYK.ok hYo (hZ0 0 (by omega)) (by have := hZv 0 (by omega); omega)
         have hys := hYK.ok.tiny.small
         refine Go1 fun _h=>?_
         refine Br.of (fun h5=>?_) (fun h5=>?_)<;>(try simp only [Int.toNat_natCast] at h5)<;>(conv=>whnf)
         ·refine Go0 ?_
          refine Dr.mkE hΓ hMix [79] [(8, 9)] (by kernel_rfl) (Go0 ?_)
          refine CallE.autoI [] Qhd (Qg4 y hys (Z.getD 0 default) hbe) plh (Go0 ?_)
          refine ⟨1, by omega, by omega, ?_⟩
          show Mv _ _ _ ([(21, .c (.int .i64 1))] ++ Qai [12, 18, 7] _) [.vr c.cells, .vr (Dev.ow (Qam y (Z.getD 0 default)) 4), .vr [Qh m], .vr dev0.cells, zO (Qam y (Z.getD 0 default))]
          exact Mv.k0
         ·omega
        ·have hFK := QfX (Z := Z) hYK (k + 1)
         have hxs := hFK.ok.tiny.small
         refine Go1 fun _h=>?_
         refine Br.of (fun h5=>Go0 ?_) (fun h5=>Go0 ?_)
         ·have hk' : k + 1 < Z.length := Int.ofNat_lt.1 h5
          have w0 := Qa (((k + 1 : Nat) : Int) + 1) (by omega) (by omega)
          have hbe : QN (Qb0 y Z (k + 1)) (Z.getD (k + 1) default) = 0 := Qjk hFK.ok (QgN hYo Z (k + 1)) (hZ0 _ hk') (by have := hZv _ hk'; have := hFK.n; omega)
          refine Dr.mvK [12, 18, 7, 21] [] [.vr c.cells, .vr (Qb0 y Z (k + 1)).cells, .vr [Qh m], .vr dev0.cells] ((Mv.fz (g := QY (Qb0 y Z (k + 1)).zones) 4 rfl (Nat.zero_le _) (fun _ _ _ _ => QaE _ _ _)).trans (Mv.mkW ?_ ?_ leN)) ?_
          ·exact wb0
          ·exact wb0
          conv=>whnf
          refine Dr.mkE hΓ hMix [79] [(8, 9)] (by kernel_rfl) (Go0 ?_)
          refine CallE.autoI [] Qhd (Qg4 (Qb0 y Z (k + 1)) hxs (Z.getD (k + 1) default) hbe) plh (Go0 ?_)
          refine ⟨k + 2, by omega, by omega, ?_⟩
          show Mv _ _ _ ([(21, .c (.int .i64 ((k + 2 : Nat) : Int)))] ++ Qai [12, 18, 7] _) [.vr c.cells, .vr (Dev.ow (Qam (Qb0 y Z (k + 1)) (Z.getD (k + 1) default)) 4), .vr [Qh m], .vr dev0.cells, zO (Qam (Qb0 y Z (k + 1)) (Z.getD (k + 1) default))]
          exact Mv.k0
         ·have : k + 1 = Z.length := Nat.le_antisymm hk (Int.ofNat_le.1 h5)
          rw [← this]
          generalize Qb0 y Z (k + 1) = x1 at *
          refine ⟨.a (Dev.ow x1 0), [zO x1], ?_, rfl, rfl⟩
          exact RM.renW [4] (by decide) wb0 wb0
theorem QqK : HB 40 := hB Tryz.func40
def SzD (d : Dev) : Prop := ∀ k, ∀ s ∈ (d.zones.getD k default).sectors, s.size ≤ 40
theorem SzD.new (n : Nat) (a b e : Int) : SzD ⟨a, b, e, List.replicate n zone0⟩ := fun i s hs => by
 exfalso
 have : ((List.replicate n zone0).getD i default).sectors = [] := by
  by_cases q : i < n
  ·rw [show (List.replicate n zone0).getD i default = zone0 by simp [List.getD, q]]; rfl
  ·rw [show (List.replicate n zone0).getD i default = default by simp only [List.getD]; rw [List.getElem?_eq_none (by rw [List.length_replicate]; omega)]; rfl]; rfl
 rw [show ((⟨a, b, e, List.replicate n zone0⟩ : Dev).zones.getD i default).sectors = [] from this] at hs
 cases hs
theorem SzD.append {x : Dev} (h : SzD x) (z : Int) {s : ByteArray} (hs : s.size ≤ 40) : SzD (Qw x z s) := fun k t ht => by
 rw [QfN] at ht
 split at ht
 ·rcases List.mem_append.1 ht with q | q
  ·exact h k t q
  ·rw [List.mem_singleton] at q; subst q; exact hs
 ·exact h k t ht
theorem SzD.reset {x : Dev} (h : SzD x) (z : Int) : SzD (QaI x z) := fun k t ht => by
 unfold QaI at ht
 split at ht
 ·rename_i q
  have hz := (Q8 q).2
  have ht : t ∈ ((x.zones.set z.toNat zone0).getD k default).sectors := ht
  by_cases c : k = z.toNat
  ·subst c
   rw [show (x.zones.set z.toNat zone0).getD z.toNat default = zone0 by simp only [List.getD]; rw [List.getElem?_set_self (by omega)]; rfl] at ht
   cases ht
  ·rw [gset c] at ht
   exact h k t ht
 ·exact h k t ht
theorem SzD.finish {x : Dev} (h : SzD x) (z : Int) : SzD (Qam x z) := fun k t ht => by
 rw [finish_sec] at ht
 exact h k t ht
theorem QkE (r : Rec) : (encR r).size ≤ 40 := by
 by_cases h : QA r = 0
 ·exact Nat.le_of_eq (Qg7 h)
 ·unfold encR
  rw [if_neg h]
  decide
theorem Qjn {x : Dev} (h : SzD x) (Z : List Int) : ∀ k, SzD (Qct x Z k)
 | 0 => h
 | k + 1 => (Qjn h Z k).reset _
theorem Qj9 {c : Conf} {y : Dev} (h : SzD y) (Z : List Int) (R : List Rec) : ∀ k, SzD (Qde c y Z R k)
 | 0 => h
 | k + 1 => (Qj9 h Z R k).append _ (QkE _)
theorem QmV {y : Dev} (h : SzD y) (Z : List Int) : ∀ k, SzD (Qb0 y Z k)
 | 0 => h
 | k + 1 => (QmV h Z k).finish _
theorem QuP {x : Dev} (h : SzD x) (c : Conf) (m : List (List Ent)) (next seq slot : Int) : SzD (QeU c x m next seq slot) :=
 QmV (Qj9 (Qjn h _ _) _ _ _) _ _
theorem bwD {H : List O} {id : Nat} {x : Dev} (h : getL H id = some (zO x)) : BwS H (.a (Dev.ow x id)) x.s :=
 BwS.a (BwL.cons (Bw.same rfl) (BwL.cons (Bw.same rfl) (BwL.cons (Bw.same rfl) (BwL.cons (Bw.sl h rfl (fun i _ j _ => Bw.same (QaE _ _ _)) (fun e => by cases e)) BwL.nil))))
set_option maxHeartbeats 8000000 in
theorem Qrc (l : List Int) (hl : l.length ≤ 10000000) : CS 9 [.c (QbS l)] [] fun s H => ∃ p : Conf × Dev, (Good p.1 p.2 ∧ SzD p.2) ∧ s = .t [.inr p.1.cells, .inr (Dev.ow p.2 0)] ∧ H = [zO p.2] := by
 have ok0 : DiceM.ok ⟨l, 0⟩ := ⟨Nat.zero_le _, hl⟩
 have hc := Qnb ⟨l, 0⟩
 have hcr := (Qat hc)
 have hcf := confR_iff.1 hcr.1
 have hsr := Qao hcr.1
 obtain ⟨n1, n2⟩ := QkA hc
 have okD : DiceM.ok (Qjh ⟨l, 0⟩) := ok0.step.step.step.step.step.step
 refine CSpec.rm ?_
 refine CSpec.of_aw hΓ Tryz.func9 180 0 [.cell 2 26, .cell 3 29] Tryz.ntmps9 ?_
 refine AWn.seq hΓ (Go0 ?_)
 refine AWn.seq hΓ (Go0 ?_)
 refine CallN.autoQ [] QkU (QkR l hl) (Go0 ?_)
 refine AWn.seq hΓ (Go0 ?_)
 refine CallN.autoQ [2] Qjm (QiG ⟨l, 0⟩ ok0) (Go0 ?_)
 generalize hC : Qb4 ⟨l, 0⟩ = c at *
 generalize hD : Qjh ⟨l, 0⟩ = D0 at *
 refine AWn.seq hΓ (Go0 ?_)
 refine CallN.pureA QpH (QqX c hc ) (Go0 ?_)
 refine AWn.seq hΓ (Go0 ?_)
 have hof : NoOff (newX c.zones c.size 3 3).zones ∧ SzD (newX c.zones c.size 3 3) := ⟨NoOff.new _, SzD.new _ _ _ _⟩
 refine CallN.autoI [] Qsw (Qss c.zones c.size 3 3 n1) plh (Go0 ?_)
 refine AWn.seq hΓ (Go0 ?_)
 refine CallN.pureA Qrv (Qr5 1 (by decide) (by decide) ) (Go0 ?_)
 rw [show List.replicate (Int.toNat 1) ([] : List Ent) = [[]] from rfl]
 generalize hM0 : ([[]] : List (List Ent)) = m0 at *
 refine AWn.seq hΓ (Go0 ?_)
 generalize newX c.zones c.size 3 3 = x0 at *
 refine AWn.seq hΓ (Go0 ?_)
 refine Lp.mkA (ι := DiceM × Dev × List (List Ent) × Int × Nat) [2, 3, 4, 5, 6] (fun p => [(8, .c (.ptr 5 0)), (10, .c (.ptr 6 0)), (12, .c (.int .i64 p.2.2.2.1)), (13, .c (.int .i64 p.2.2.2.2))]) (fun p => [.vr [.int .i64 0, .int .i64 0, .int .i64 0, .int .i64 0, .int .i64 0, .int .i64 0], .vr [.int .i64 0, .int .i64 0, .int .i64 0, .nils], .vr p.1.cells, .vr c.cells, .vr (Lay.cells c), .vr (Dev.ow p.2.1 7), .vr [Qh p.2.2.1], zO p.2.1]) (fun p => p.1.ok ∧ MInv c p.2.1 p.2.2.1 p.2.2.2.2 ∧ (NoOff p.2.1.zones ∧ SzD p.2.1) ∧ p.2.2.2.2 ≤ 30) (fun p => 30 - p.2.2.2.2) (D0, x0, m0, 1, 0) ⟨okD, n2, hof, Nat.zero_le _⟩ ?_ ?_
 ·show Mv _ _ _ ([(8, .c (.ptr 5 0)), (10, .c (.ptr 6 0)), (12, .c (.int .i64 1)), (13, .c (.int .i64 0))] ++ Qai [2, 3, 4, 5, 6] _) [.vr [.int .i64 0, .int .i64 0, .int .i64 0, .int .i64 0, .int .i64 0, .int .i64 0], .vr [.int .i64 0, .int .i64 0, .int .i64 0, .nils], .vr D0.cells, .vr c.cells, .vr (Lay.cells c), .vr (Dev.ow x0 7), .vr [Qh m0], zO x0]
  exact Mv.renW [0, 1, 2, 3, 4, 6, 7, 5] (by decide) (fun i hi => absurd hi (Nat.not_lt_zero _)) (Nat.zero_le _) wb0 wb0
 ·rintro ⟨D, x, m, v, k⟩ ⟨hD, hI, hof, hk⟩
  have hD : D.ok := hD
  have hI : MInv c x m k := hI
  have hof : NoOff x.zones ∧ SzD x := hof
  have hk : k ≤ 30 := hk
  have hml := hI.ml
  have hms : ∀ i, (m.getD i default).length ≤ 1000000 := fun i => by have := hI.len i; omega
  refine AWn.seq hΓ (Go0 ?_)
  refine CallG.keepQ [2] Qsp (Qsl D hD) wb0 wb0 (Go0 ?_)
  by_cases h1 : k < 30 ∧ 0 < D.rest
  ·refine Br.yes (by rw [show (((D, x, m, v, k) : DiceM × Dev × List (List Ent) × Int × Nat).2.2.2.2 : Int) = (k : Int) from rfl, decide_eq_true (by omega : (k : Int) < 30), decide_eq_true (by omega : D.rest > 0)]; rfl) (Go0 ?_)
   refine AWn.assoc ?_
   refine AWn.block ?_
   refine AWn.seq hΓ (Go0 ?_)
   refine CallN.autoQ [2] Qoe (QoR D hD c.blocks v) (Go0 ?_)
   have hD1 : (recD D).ok := hD.step.step.step
   generalize recD D = D1 at *
   have hr0 : (recR D c.blocks v).block < c.blocks := QqV D (by omega) (by omega)
   generalize recR D c.blocks v = r0 at *
   refine AWn.seq hΓ (Go0 ?_)
   refine Dr.mkE hΓ hMix [34] [(0, 5), (1, 5)] (by kernel_rfl) (Go0 ?_)
   refine CallE.autoQ [2] QaH (QaO D1 hD1 (Qaj c)) (Go0 ?_)
   have hz0 := D1.next_range (n := Qaj c) (by omega) (by unfold Qaj; omega)
   have hzw : IntKind.i64.wrap (2 * Qi c + D1.next (Qaj c)) = 2 * Qi c + D1.next (Qaj c) := Qa _ (by unfold Qaj at *; omega) (by unfold Qaj at *; omega)
   rw [hzw]
   have hzz : 2 * Qi c ≤ 2 * Qi c + D1.next (Qaj c) := by omega
   generalize 2 * Qi c + D1.next (Qaj c) = z at *
   have hD2 := hD1.step
   generalize D1.step = D2 at *
   refine AWn.join hΓ (ι := DiceM × Rec × Int) [2, 3, 4, 5, 6, 8, 10, 13, 14, 15] (fun p => [(12, .c (.int .i64 p.2.2))]) (fun p => [.vr [.int .i64 0, .int .i64 0, .int .i64 0, .int .i64 0, .int .i64 0, .int .i64 0], .vr [.int .i64 0, .int .i64 0, .int .i64 0, .nils], .vr p.1.cells, .vr c.cells, .vr (Lay.cells c), .vr (Dev.ow x 7), .vr [Qh m], zO x, .vr p.2.1.cells]) (fun p => p.1.ok ∧ p.2.1.block < c.blocks) ?_ ?_
   ·refine Go0 ?_
    refine CallN.pureA Qil (QiP m r0.block (by omega) hms ) (Go0 ?_)
    refine CallG.autoQ [2] QaH (QaO D2 hD2 3) (fun hg => ?_) (fun hg => ?_) <;> (conv=>whnf)
    ·refine Go0 ?_
     obtain ⟨o1, o2⟩ := hI.ent.find hg
     by_cases h2 : D2.next 3 = 2
     ·refine Br.yes (by rw [hg, h2]; rfl) (Go0 ?_)
      generalize (Qbg m r0.block).1 = old at *
      refine CallN.reads Qgw (Qgu x old.zone old.offset) (BwA.cons (bwD rfl) (BwA.cons (BwS.c (Bw.same rfl)) (BwA.cons (BwS.c (Bw.same rfl)) BwA.nil))) rfl (Go0 ?_)
      refine CallN.pureA Qeq (Qej (Qbi x old.zone old.offset) ) (Go0 ?_)
      refine CallN.pureA QqZ (QqO (decR (Qbi x old.zone old.offset)) ) (Go0 ?_)
      refine ⟨(D2.step, (Qgd (decR (Qbi x old.zone old.offset))).1, v), ⟨hD2.step, hI.copy (by omega) o1.2 (by omega)⟩, ?_⟩
      exact Mv.k0
     ·refine Br.no (by rw [hg]; simpa using h2) (Go0 ?_)
      refine ⟨(D2.step, r0, IntKind.i64.wrap (v + 1)), ⟨hD2.step, hr0⟩, ?_⟩
      exact Mv.k0
    ·refine Go0 ?_
     refine Br.no (by rw [hg]; rfl) (Go0 ?_)
     refine ⟨(D2, r0, IntKind.i64.wrap (v + 1)), ⟨hD2, hr0⟩, ?_⟩
     exact Mv.k0
   ·rintro ⟨D3, r, v2⟩ ⟨hD3, hrb⟩
    have hD3 : D3.ok := hD3
    have hrb : r.block < c.blocks := hrb
    have hxs := hI.ok.tiny.small
    by_cases hE : QP x z (encR r) = 0
    ·refine AWn.seq hΓ ?_
     conv=>whnf
     refine Dr.mvK [2, 3, 4, 5, 6, 8, 10, 12, 13, 14, 15] [] [.vr [.int .i64 0, .int .i64 0, .int .i64 0, .int .i64 0, .int .i64 0, .int .i64 0], .vr [.int .i64 0, .int .i64 0, .int .i64 0, .nils], .vr D3.cells, .vr c.cells, .vr (Lay.cells c), .vr x.cells, .vr [Qh m], .dead, .vr r.cells] ((Mv.fz (g := QY x.zones) 7 rfl (Nat.zero_le _) (fun _ _ _ _ => QaE _ _ _)).trans (Mv.mkW ?_ ?_ leN)) ?_
     ·exact wb0
     ·exact wb0
     conv=>whnf
     refine Dr.mkL hΓ hMix [29] [(7, 10), (8, 10), (9, 4)] 4 9 (by kernel_rfl) (Go0 ?_)
     refine CallP.auto Qcz (QcC r ) (Go0 ?_)
     refine CallE.autoI [] QmX (Qm2 x hxs z (encR r) hE) plh (Go0 ?_)
     refine AWn.seq hΓ (Go0 ?_)
     refine Br.no rfl (Go0 ?_)
     have hY := hI.append z (s := encR r) (QrX hrb (by omega))
     have hYo : NoOff (Qw x z (encR r)).zones ∧ SzD (Qw x z (encR r)) := ⟨NoOff.append hof.1 z (encR r), hof.2.append z (QkE r)⟩
     generalize Qw x z (encR r) = y at *
     generalize Qa5 x z (encR r) = at_ at *
     refine AWn.seq hΓ (Go0 ?_)
     refine AWn.seq hΓ (Go0 ?_)
     refine AWn.join hΓ (ι := List (List Ent)) [2, 3, 4, 5, 6, 12, 13] (fun _ => [(8, .c (.ptr 5 0)), (10, .c (.ptr 6 0))]) (fun m2 => [.vr [.int .i64 0, .int .i64 0, .int .i64 0, .int .i64 0, .int .i64 0, .int .i64 0], .vr [.int .i64 0, .int .i64 0, .int .i64 0, .nils], .vr D3.cells, .vr c.cells, .vr (Lay.cells c), .vr (Dev.ow y 7), .vr [Qh m2], zO y]) (fun m2 => MInv c y m2 (k + 1)) ?_ ?_
     ·refine Go0 ?_
      refine CallN.pureA Qil (QiP m r.block (by omega) hms ) (Go0 ?_)
      by_cases h2 : (Qbg m r.block).2 = true ∧ (Qbg m r.block).1.version = r.version
      ·refine Br.yes (by show (bif (Qbg m r.block).2 then (Qbg m r.block).1.version == r.version else false) = true; rw [h2.1, h2.2]; simp) (Go0 ?_)
       generalize (Qbg m r.block).1 = old at *
       refine CallN.pureA QnK (QnT m r.block r.version old.zone old.offset z at_ r.move (by omega) hms ) (Go0 ?_)
       refine ⟨(relM m r.block r.version old.zone old.offset z at_ r.move).1, hY.rel hzz, ?_⟩
       show Mv _ _ _ ([(8, .c (.ptr 5 0)), (10, .c (.ptr 6 0))] ++ Qai [2, 3, 4, 5, 6, 12, 13] _) [.vr [.int .i64 0, .int .i64 0, .int .i64 0, .int .i64 0, .int .i64 0, .int .i64 0], .vr [.int .i64 0, .int .i64 0, .int .i64 0, .nils], .vr D3.cells, .vr c.cells, .vr (Lay.cells c), .vr (Dev.ow y 7), .vr [Qh (relM m r.block r.version old.zone old.offset z at_ r.move).1], zO y]
       refine Mv.renW [0, 1, 2, 3, 4, 5, 6, 9] (by decide) (fun i hi => absurd hi (Nat.not_lt_zero _)) (Nat.zero_le _) ?_ ?_
       ·exact wb0
       ·exact wb0
      ·refine Br.no (by
        show (bif (Qbg m r.block).2 then (Qbg m r.block).1.version == r.version else false) = false
        cases q : (Qbg m r.block).2 with
        | false => rfl
        | true => simpa using fun w => h2 ⟨q, w⟩) ?_
       refine Go0 ?_
       refine CallN.pureA QpI (QpE m ⟨r.block, r.kind, r.version, r.move, z, at_⟩ (by omega) hms ) (Go0 ?_)
       refine ⟨(Qar m ⟨r.block, r.kind, r.version, r.move, z, at_⟩).1, hY.inst ⟨hrb, hzz⟩, ?_⟩
       show Mv _ _ _ ([(8, .c (.ptr 5 0)), (10, .c (.ptr 6 0))] ++ Qai [2, 3, 4, 5, 6, 12, 13] _) [.vr [.int .i64 0, .int .i64 0, .int .i64 0, .int .i64 0, .int .i64 0, .int .i64 0], .vr [.int .i64 0, .int .i64 0, .int .i64 0, .nils], .vr D3.cells, .vr c.cells, .vr (Lay.cells c), .vr (Dev.ow y 7), .vr [Qh (Qar m ⟨r.block, r.kind, r.version, r.move, z, at_⟩).1], zO y]
       refine Mv.renW [0, 1, 2, 3, 4, 5, 6, 9] (by decide) (fun i hi => absurd hi (Nat.not_lt_zero _)) (Nat.zero_le _) ?_ ?_
       ·exact wb0
       ·exact wb0
     ·intro m2 hI2
      have hI2 : MInv c y m2 (k + 1) := hI2
      have hw1 : IntKind.i64.wrap ((k : Int) + 1) = ((k + 1 : Nat) : Int) := by rw [Qa _ (by omega) (by omega)]; omega
      refine AWn.ofVc hΓ (Go0 ?_)
      refine CallN.autoQ [2] QaH (QaO D3 hD3 9) (Go0 ?_)
      by_cases h3 : D3.next 9 = 8
      ·refine Br.yes (by simpa using h3) (Go0 ?_)
       have hs2 := D3.step.next_range (n := 2) (by omega) (by omega)
       have hal := QtL hI2.ml hI2.len
       have hI3 := hI2.save hc v2 (IntKind.i64.wrap (1 + k)) hs2.1 (show D3.step.next 2 ≤ 1 by omega)
       have hI4 := And.intro (QtY hYo.1 c m2 v2 (IntKind.i64.wrap (1 + k)) (D3.step.next 2)) (QuP hYo.2 c m2 v2 (IntKind.i64.wrap (1 + k)) (D3.step.next 2))
       have hsv := Qqc c y m2 v2 (IntKind.i64.wrap (1 + k)) (D3.step.next 2) hc hI2.ok hI2.n hYo.1 (by have := hI2.ml; omega) (fun i => by have := hI2.len i; omega) (by omega) (fun e he => (hI2.ent.all e he).1) hs2.1 (by omega)
       generalize QeU c y m2 v2 (IntKind.i64.wrap (1 + k)) (D3.step.next 2) = y2 at *
       refine Dr.mvK [2, 3, 4, 5, 6, 8, 10, 12, 13] [] [.vr [.int .i64 0, .int .i64 0, .int .i64 0, .int .i64 0, .int .i64 0, .int .i64 0], .vr [.int .i64 0, .int .i64 0, .int .i64 0, .nils], .vr D3.step.cells, .vr c.cells, .vr (Lay.cells c), .vr y.cells, .vr [Qh m2]] ((Mv.fz (g := QY y.zones) 7 rfl (Nat.zero_le _) (fun _ _ _ _ => QaE _ _ _)).trans (Mv.mkW ?_ ?_ leN)) ?_
       ·exact wb0
       ·exact wb0
       conv=>whnf
       refine Dr.mkE hΓ hMix [34, 40] [(0, 7), (1, 7), (2, 7), (3, 7), (4, 7), (5, 7)] (by kernel_rfl) (Go0 ?_)
       refine CallE.autoQ [2] QaH (QaO D3.step hD3.step 2) (Go0 ?_)
       refine CallE.autoI [] QqK hsv plh (Go0 ?_)
       refine AWn.ofVc hΓ (Go0 ?_)
       refine ⟨(D3.step.step, y2, m2, v2, k + 1), ⟨hD3.step.step, hI3, hI4, by show k + 1 ≤ 30; omega⟩, by show 30 - (k + 1) < 30 - k; omega, ?_⟩
       rw [show IntKind.i64.wrap ((((D, x, m, v, k) : DiceM × Dev × List (List Ent) × Int × Nat).2.2.2.2 : Int) + 1) = ((k + 1 : Nat) : Int) from hw1]
       show Mv _ _ _ ([(8, .c (.ptr 5 0)), (10, .c (.ptr 6 0)), (12, .c (.int .i64 v2)), (13, .c (.int .i64 ((k + 1 : Nat) : Int)))] ++ Qai [2, 3, 4, 5, 6] _) [.vr [.int .i64 0, .int .i64 0, .int .i64 0, .int .i64 0, .int .i64 0, .int .i64 0], .vr [.int .i64 0, .int .i64 0, .int .i64 0, .nils], .vr D3.step.step.cells, .vr c.cells, .vr (Lay.cells c), .vr (Dev.ow y2 7), .vr [Qh m2], zO y2]
       exact Mv.k0
      ·refine Br.no (by simpa using h3) (Go0 ?_)
       refine AWn.ofVc hΓ (Go0 ?_)
       refine ⟨(D3.step, y, m2, v2, k + 1), ⟨hD3.step, hI2, hYo, by show k + 1 ≤ 30; omega⟩, by show 30 - (k + 1) < 30 - k; omega, ?_⟩
       rw [show IntKind.i64.wrap ((((D, x, m, v, k) : DiceM × Dev × List (List Ent) × Int × Nat).2.2.2.2 : Int) + 1) = ((k + 1 : Nat) : Int) from hw1]
       show Mv _ _ _ ([(8, .c (.ptr 5 0)), (10, .c (.ptr 6 0)), (12, .c (.int .i64 v2)), (13, .c (.int .i64 ((k + 1 : Nat) : Int)))] ++ Qai [2, 3, 4, 5, 6] _) [.vr [.int .i64 0, .int .i64 0, .int .i64 0, .int .i64 0, .int .i64 0, .int .i64 0], .vr [.int .i64 0, .int .i64 0, .int .i64 0, .nils], .vr D3.step.cells, .vr c.cells, .vr (Lay.cells c), .vr (Dev.ow y 7), .vr [Qh m2], zO y]
       exact Mv.k0
    ·refine AWn.seq hΓ ?_
     conv=>whnf
     refine Dr.thawS hΓ hMix [(7, 10), (8, 10)] [2, 3, 4, 5, 6, 8, 10, 12, 13] [(8, .c (.ip 4 (lget x.cells))), (14, .c (.ip 5 (lget r.cells))), (15, .c (.int .i64 z))] ?_ (by rfl) (by kernel_rfl) ?_
     ·refine .cons (BwS.c (Bw.ptr (n := 4) rfl fun j hj => ?_)) (.cons (BwS.c (Bw.ptr (n := 5) rfl fun j hj => ?_)) (.cons (BwS.c (Bw.same rfl)) .nil))
      ·match j, hj with
       | 0, _ => exact ⟨_, rfl, Bw.same rfl⟩
       | 1, _ => exact ⟨_, rfl, Bw.same rfl⟩
       | 2, _ => exact ⟨_, rfl, Bw.same rfl⟩
       | 3, _ => exact ⟨_, rfl, Bw.sl rfl rfl (fun i _ j _ => Bw.same (QaE _ _ _)) (fun e => by cases e)⟩
      ·match j, hj with
       | 0, _ => exact ⟨_, rfl, Bw.same rfl⟩
       | 1, _ => exact ⟨_, rfl, Bw.same rfl⟩
       | 2, _ => exact ⟨_, rfl, Bw.same rfl⟩
       | 3, _ => exact ⟨_, rfl, Bw.same rfl⟩
       | 4, _ => exact ⟨_, rfl, Bw.same rfl⟩
     ·refine Go0 ?_
      refine CallP.auto Qcz (QcC r ) (Go0 ?_)
      refine CallP.auto Qca (Qcg x hxs z (encR r) ) (Go0 ?_)
      refine ⟨[(24, .c (.int .i64 (QP x z (encR r))))], ?_, rfl, ?_⟩
      ·exact wb0
      refine AWn.seq hΓ (Go0 ?_)
      refine Br.yes (by simpa using hE) (Go0 ?_)
      refine AWn.ofVc hΓ (Go0 ?_)
      have hw1 : IntKind.i64.wrap ((k : Int) + 1) = ((k + 1 : Nat) : Int) := by rw [Qa _ (by omega) (by omega)]; omega
      refine ⟨(D3, x, m, v2, k + 1), ⟨hD3, hI.mono (Nat.le_succ k), hof, by show k + 1 ≤ 30; omega⟩, by show 30 - (k + 1) < 30 - k; omega, ?_⟩
      rw [show IntKind.i64.wrap ((((D, x, m, v, k) : DiceM × Dev × List (List Ent) × Int × Nat).2.2.2.2 : Int) + 1) = ((k + 1 : Nat) : Int) from hw1]
      show Mv _ _ _ ([(8, .c (.ptr 5 0)), (10, .c (.ptr 6 0)), (12, .c (.int .i64 v2)), (13, .c (.int .i64 ((k + 1 : Nat) : Int)))] ++ Qai [2, 3, 4, 5, 6] _) [.vr [.int .i64 0, .int .i64 0, .int .i64 0, .int .i64 0, .int .i64 0, .int .i64 0], .vr [.int .i64 0, .int .i64 0, .int .i64 0, .nils], .vr D3.cells, .vr c.cells, .vr (Lay.cells c), .vr (Dev.ow x 7), .vr [Qh m], zO x]
      exact Mv.k0
  ·refine Br.no (Bool.eq_false_iff.2 fun q => h1 ?_) ?_
   ·rw [show (((D, x, m, v, k) : DiceM × Dev × List (List Ent) × Int × Nat).2.2.2.2 : Int) = (k : Int) from rfl] at q
    by_cases w1 : (k : Int) < 30
    ·rw [decide_eq_true w1] at q
     exact ⟨by omega, of_decide_eq_true q⟩
    ·rw [decide_eq_false w1] at q
     cases q
   ·refine Go0 ?_
    refine AWn.ofVc hΓ (Go0 ?_)
    refine Dr.mkE hΓ hMix [] [(1, 2)] (by kernel_rfl) (Go0 ?_)
    refine ⟨.t [.inr c.cells, .inr (Dev.ow x 0)], [zO x], ?_, (c, x), ⟨⟨hc, hI.ok, hI.n, hI.size⟩, hof.2⟩, rfl, rfl⟩
    exact RM.renW [7] (by decide) wb0 wb0
theorem Qqj : HB 9 := hB Tryz.func9
theorem Qo0 {b : Bas} {l : List Fnd} {e : Ent} : ∀ {k : Nat}, e ∈ Qbs b l k → ∃ f, Qbz b l e.block = some f ∧ e = ⟨e.block, f.r.kind, f.r.version, f.r.move, f.zone, f.offset⟩ ∧ f.r.block = e.block
 | 0, h => by cases h
 | k + 1, h => by
  rcases List.mem_append.1 h with h | h
  ·exact Qo0 h
  ·unfold QcG at h
   split at h
   ·cases h
   ·rename_i f hf
    split at h
    ·rw [List.mem_singleton] at h
     subst h
     exact ⟨f, hf, rfl, (Qf1 hf).2.1.1⟩
    ·cases h
theorem Qtb {c : Conf} {d : Dev} (h : Qav c d = 0) : Qm c = 0 ∧ check d = 0 ∧ badF c d = false := by
 unfold Qav at h
 split at h
 ·rename_i h1
  split at h
  ·rename_i h2
   split at h
   ·split at h
    ·cases h
    ·rename_i h4
     exact ⟨h1, h2, Bool.eq_false_iff.2 h4⟩
   ·cases h
  ·rename_i h2; exact absurd h h2
 ·rename_i h1; exact absurd h h1
theorem Qs8 {c : Conf} {d : Dev} (h : Qav c d = 0) {e : Ent} (he : e ∈ winL c d) :
  QdD d e.zone e.offset = 0 ∧ (QZ (Qbi d e.zone e.offset)).2 = true ∧ (QZ (Qbi d e.zone e.offset)).1.block = e.block ∧ (QZ (Qbi d e.zone e.offset)).1.kind = e.kind ∧ (QZ (Qbi d e.zone e.offset)).1.version = e.version ∧ (QZ (Qbi d e.zone e.offset)).1.move = e.move ∧ e.block < c.blocks ∧ ∀ f ∈ QaP c d, f.r.block = e.block → e.version < f.r.version → ¬ (QaV c d).cut ≤ f.r.version := by
 obtain ⟨hc, hk, hb⟩ := Qtb h
 obtain ⟨f, hf, hE, hfb⟩ := Qo0 he
 have hlt := ((Qic c d (QaV c d) c.blocks.toNat).1 e he).2
 have hcf := confR_iff.1 (Qat hc).1
 obtain ⟨m1, m2, m3⟩ := Qf1 hf
 obtain ⟨a1, a2, a3, a4, a5, a6, a7, -⟩ := QeB m1
 have z : e.zone = f.zone := by rw [hE]
 have o : e.offset = f.offset := by rw [hE]
 have r1 : QdD d e.zone e.offset = 0 := by
  unfold QdD QN
  rw [z, o]
  have hz : f.zone.toNat < d.zones.length := by omega
  have hst : ¬ (d.zones.getD f.zone.toNat default).state = 5 := by
   intro q
   unfold badF at hb
   rw [Bool.or_eq_false_iff, Bool.or_eq_false_iff, List.any_eq_false] at hb
   refine hb.1.1 (d.zones.getD f.zone.toNat default) ?_ (decide_eq_true q)
   rw [List.getD_eq_getElem?_getD, List.getElem?_eq_getElem hz]
   exact List.getElem_mem hz
  rw [if_pos hk, if_pos (decide_eq_true ⟨a4, a6⟩), if_neg hst, if_pos rfl, if_pos (decide_eq_true ⟨a5, a7⟩)]
 have r2 : Qbi d e.zone e.offset = (d.zones.getD f.zone.toNat default).sectors.getD f.offset.toNat ByteArray.empty := by
  unfold Qbi
  rw [if_pos r1, z, o]
 rw [r2, a2, ← a1]
 refine ⟨r1, rfl, hfb, by rw [hE], by rw [hE], by rw [hE], by omega, fun g hg h1 h2 h3 => ?_⟩
 have hv : e.version = f.r.version := by rw [hE]
 refine m3 g hg ⟨h1, ?_⟩ (better_iff.2 (.inl (by omega)))
 unfold Qa6
 rw [decide_eq_true h3]
 rfl
theorem Qu9 (c : Conf) (d : Dev) : (QaV c d).cut = if (Qo c d).2 = -1 then 1 else (Qo c d).1.cut := by
 have h : (Qo c d).2 = 0 ∨ (Qo c d).2 = 1 ∨ (Qo c d).2 = -1 := by
  unfold Qo
  split
  ·exact .inl rfl
  ·split
   ·exact .inr (.inl rfl)
   ·exact .inr (.inr rfl)
 unfold QaV
 by_cases q : (Qo c d).2 = -1
 ·rw [if_pos (by omega), if_pos q]
 ·rw [if_neg (by omega), if_neg q]
theorem Qqg : PS 18 [.c (QS []), .c .nils] (.c (.bool true)) := by
 refine PSpec.rm ?_
 refine ov hΓ Tryz.func18 26 0 [.tmp 4] Tryz.ntmps18 Tryz.results18 ?_
 refine Go1 fun _h=>?_
 refine Br.no (by rfl) (Go0 ?_)
 refine Lp.mkK hΓ (ι := Unit) [0] (fun _ => [(5, .c (.int .i64 0))]) (fun _ => []) (fun _ => True) (fun _ => 0) () trivial ?_ ?_
 ·exact Mv.k0
 ·intro _ _
  refine Go1 fun _h=>?_
  refine Br.no (by simp) (Go0 ?_)
  exact RM.i0
theorem Qqp : HB 18 := hB Tryz.func18
theorem QsH {l : List ByteArray} {M : Nat} {v : ByteArray} (hM : M < l.length) (a : Nat) : updG (strG l) M 0 [.str v] a 0 = .str ((l.set M v).getD a ByteArray.empty) := by
 rw [QbO]
 by_cases c : a = M
 ·subst c
  rw [if_pos ⟨rfl, rfl⟩, List.getD_eq_getElem?_getD, List.getElem?_set_self hM]
  rfl
 ·rw [if_neg (fun q => c q.1), List.getD_eq_getElem?_getD, List.getElem?_set_ne (fun q => c q.symm), ← List.getD_eq_getElem?_getD]
  rfl
theorem QsP {d : Dev} (hd : d.tiny) {K : Nat} (hK : K < d.zones.length) {l : List ByteArray} (hl : l.length = (d.zones.getD K default).sectors.length) : Dev.tiny { d with zones := d.zones.set K { d.zones.getD K default with sectors := l } } := by
 refine ⟨by show (d.zones.set _ _).length ≤ 100; rw [List.length_set]; exact hd.z, fun i => ?_⟩
 show ((d.zones.set K _).getD i default).sectors.length ≤ 100
 by_cases c : i = K
 ·subst c
  rw [show (d.zones.set i { d.zones.getD i default with sectors := l }).getD i default = { d.zones.getD i default with sectors := l } by rw [List.getD_eq_getElem?_getD, List.getElem?_set_self hK]; rfl]
  show l.length ≤ 100
  rw [hl]
  exact hd.s i
 ·rw [gset c]
  exact hd.s i
theorem Qu6 {a b v w cut : Int} (h : a = b → w < v → ¬ cut ≤ v) : (bif bif a == b then decide (v > w) else false then decide (v ≥ cut) else false) = false := by
 by_cases q : a = b
 ·by_cases r : w < v
  ·rw [decide_eq_false (show ¬ v ≥ cut from h q r)]
   cases (bif a == b then decide (v > w) else false) <;> rfl
  ·rw [decide_eq_false (show ¬ v > w from r)]
   cases a == b <;> rfl
 ·rw [beq_false_of_ne q]
  rfl
theorem wcU {L : List Zone} {K id m n i j : Nat} {x : Bool} (h : id < n) : WC idN n (updG (QY L) K 2 [.sl id 1 m m x] i j) (updG (QY L) K 2 [.sl id 1 m m x] i j) := by
 rw [QbO]
 split
 ·exact WC.bel (by show Nat.blt id n = true; simpa using h)
 ·exact WC.imm (QaE _ _ _)
theorem _root_.Go.Am.AWn.mvK {X : Cx} {c : Code} {ts : Ts} {H : List O} {k : Kp} (kp : List Nat) (st : Ts) (H' : List O) (hm : Mv X ts H (st ++ Qai kp ts) H') (h : AWn X c (st ++ Qai kp ts) H' k) : AWn X c ts H k := ⟨AW.mv hm h.out⟩
set_option maxHeartbeats 8000000 in
theorem Qn1 (l : List Int) (what at_ by_ : Int) : PS 4 [.c (QbS l), .c (.int .i64 what), .c (.int .i64 at_), .c (.int .i64 by_)] (.c (.bool true)) := by
 refine PSpec.rm ?_
 refine CSpec.of_aw hΓ Tryz.func4 245 0 [.tmp 8] Tryz.ntmps4 ?_
 refine AWn.seq hΓ (Go0 ?_)
 refine AWn.seq hΓ (Go0 ?_)
 refine CallN.pureA Qp0 (QpC l ) (Go0 ?_)
 by_cases h1 : l.length ≤ 300
 ·refine Br.no (by rw [decide_eq_true h1]; rfl) (Go0 ?_)
  refine AWn.seq hΓ (Go0 ?_)
  refine CallN.exQ [] Qqj (Qrc l (by omega)) (fun p hp => ?_) (by decide) wb0 rfl wb0
  obtain ⟨c, d⟩ := p
  have hG : Good c d := hp.1
  have hz : SzD d := hp.2
  clear hp
  have hd := hG.ok.tiny
  have hcf := confR_iff.1 (Qat hG.conf).1
  have hzn := hG.n
  have hzl := hd.z
  have hm := Qc9 (x := at_) (n := d.zones.length) (by omega) (by omega)
  have hk : (modI at_ d.zones.length).toNat < d.zones.length := by omega
  have hs := hd.s (modI at_ d.zones.length).toNat
  refine Go0 ?_
  refine AWn.mvK [1, 2, 3] [(9, .c (.ptr 1 0)), (10, .c (.ptr 2 0))] [zO d, .vr c.cells, .vr (Dev.ow d 0)] ?_ ?_
  ·refine Mv.k1 ?_
   ·exact fun i _ j _ => WC.reI (QaE _ _ _)
  refine AWn.join hΓ (ι := Dev) [2, 3] (fun x => [(9, .c (.ptr 0 0)), (10, .c (.ptr 1 0))]) (fun x => [.vr c.cells, .vr x.cells]) (fun x => x.tiny) ?_ ?_
  ·refine Go0 ?_
   refine CallN.pureA QcK (QcJ what 3 ) (Go0 ?_)
   refine Br.of (fun m0=>Go0 ?_) (fun m0=>Go0 ?_)
   ·refine Dr.mk hΓ hMix (by kernel_rfl) (Go0 ?_)
    refine CallP.auto QcK (QcJ at_ d.zones.length ) (Go0 ?_)
    refine Frc.mk (.c (QbA (d.zones.getD (modI at_ d.zones.length).toNat default).sectors)) rfl (Go1 fun _h=>?_)
    refine Br.of (fun m1=>Go0 ?_) (fun m1=>Go0 ?_)
    ·refine Frc.mk (.c (QbA (d.zones.getD (modI at_ d.zones.length).toNat default).sectors)) rfl (Go0 ?_)
     generalize hK : (modI at_ d.zones.length).toNat = K at *
     generalize hS : (d.zones.getD K default).sectors = secs at *
     have hby := Qc9 (x := by_) (n := secs.length) (by omega) (by omega)
     rw [show 0 + secs.length = secs.length from Nat.zero_add _]
     refine Dr.mvK [2, 3, 9, 10] [(11, .c (.ep 0 K 0 d.zones.length)), (12, .c (.int .i64 secs.length))] [.arr 46 3 d.zones.length (updG (QY d.zones) K 2 [.sl 3 1 secs.length secs.length false]), .vr c.cells, .vr (Dev.ow d 0), .arr 9 1 secs.length (strG secs)] ?_ ?_
     ·refine Mv.k3 ?_ ?_ ?_
      ·exact fun i _ j _ => wcU leN
      ·exact fun i _ j _ => WC.eq (by simp [appG, strG]) rfl
      ·exact WC.bel rfl
     ·refine Dr.mk hΓ hMix (by kernel_rfl) (Go0 ?_)
      refine Frc.mk (.c (.sl 3 1 secs.length secs.length false)) (by rw [QbO]; rw [if_pos ⟨rfl, rfl⟩]) (Go0 ?_)
      refine CallP.auto QcK (QcJ by_ secs.length ) (Go0 ?_)
      refine Frc.mk (.c (.sl 3 1 secs.length secs.length false)) (by rw [QbO]; rw [if_pos ⟨rfl, rfl⟩]) (Go0 ?_)
      refine CallP.auto QcK (QcJ by_ secs.length ) (Go0 ?_)
      generalize hM : (modI by_ secs.length).toNat = M at *
      have hml : M < secs.length := by omega
      refine Frc.mk (.c (.str (secs.getD M ByteArray.empty))) rfl (Go0 ?_)
      refine CallP.auto Qrn (QsO (secs.getD M ByteArray.empty) (Nat.le_trans (hz K _ (by rw [hS]; rw [List.getD_eq_getElem?_getD, List.getElem?_eq_getElem hml]; exact List.getElem_mem hml)) (by decide)) at_ by_ ) ?_
      refine Go0 ?_
      generalize hV : Qdz (secs.getD M ByteArray.empty) at_ by_ = v at *
      rw [hM]
      have hgs : ∀ a, a < secs.length → updG (strG secs) M 0 [.str v] a 0 = .str ((secs.set M v).getD a ByteArray.empty) := fun a ha => QsH hml a
      have key := Qu7 (L := d.zones) (id := 3) (x := false) hk (m := secs.length) (secs := secs.set M v) (by simp) hgs
      refine ⟨{ d with zones := d.zones.set K { d.zones.getD K default with sectors := secs.set M v } }, QsP hd hk (by rw [hS]; simp), ?_⟩
      refine (Mv.fz (g := updG (strG secs) M 0 [.str v]) 3 rfl (Nat.zero_le _) (fun i hi j hj => ?_)).trans ?_
      ·have : j = 0 := by have hj' : j < 1 := hj; omega
       subst this
       exact (congrArg C.imm (hgs i hi)).trans rfl
      refine (Mv.fz 0 rfl (Nat.zero_le _) (fun i _ j hj => (key i j hj).2)).trans ?_
      refine Mv.renW [1, 2] (by decide) (fun i hi => absurd hi (Nat.not_lt_zero _)) (Nat.zero_le _) ?_ ?_ <;> (first|exact wb0|refine wb1 ?_|refine wb2 ?_ ?_|refine wb3 ?_ ?_ ?_|refine wb4 ?_ ?_ ?_ ?_)
      exact WC.fz rfl (by simp) (fun i _ j hj => (key i j hj).1) (fun e => by cases e)
    ·refine ⟨d, hd, ?_⟩
     refine (Mv.fz (g := QY d.zones) 0 rfl (Nat.zero_le _) (fun _ _ _ _ => QaE _ _ _)).trans ?_
     exact Mv.renW [1, 2] (by decide) (fun i hi => absurd hi (Nat.not_lt_zero _)) (Nat.zero_le _) wb0 wb0
   ·refine ⟨d, hd, ?_⟩
    refine (Mv.fz (g := QY d.zones) 0 rfl (Nat.zero_le _) (fun _ _ _ _ => QaE _ _ _)).trans ?_
    exact Mv.renW [1, 2] (by decide) (fun i hi => absurd hi (Nat.not_lt_zero _)) (Nat.zero_le _) wb0 wb0
  ·intro x hx
   have hx : x.tiny := hx
   refine AWn.seq hΓ (Go0 ?_)
   refine CallN.pureA Qjv (Qjb c x hx ) (Go0 ?_)
   obtain ⟨o1, o2⟩ := Qns c x
   refine AWn.seq hΓ (Go0 ?_)
   by_cases hE : Qav c x = 0
   ·refine Br.no (by rw [hE]; rfl) ?_
    have hAll := QrT hE
    have hPl := fun e he => Qs8 (c := c) (d := x) hE (e := e) he
    have hSl : (QbI c x).slot = (Qo c x).2 := by rw [show QbI c x = Qbm c x from if_pos hE]; rfl
    rw [hE]
    generalize QbI c x = Y at *
    refine Go0 ?_
    refine AWn.seq hΓ (Go0 ?_)
    refine CallN.pureA Qk3 (Qk8 c x hx ) (Go0 ?_)
    have hcut := Qu9 c x
    refine AWn.join hΓ (ι := Unit) [9, 10, 13, 15, 16] (fun _ => []) (fun _ => [.vr c.cells, .vr x.cells, .vr Y.cells, .vr (Bas.cells { (Qo c x).1 with cut := (QaV c x).cut })]) (fun _ => True) ?_ ?_
    ·refine Go0 ?_
     by_cases h3 : (Qo c x).2 = -1
     ·rw [if_pos h3] at hcut
      refine Br.yes (by rw [h3]; rfl) (Go0 ?_)
      refine ⟨(), trivial, ?_⟩
      rw [hcut]
      exact Mv.k0
     ·rw [if_neg h3] at hcut
      refine Br.no (by simpa using h3) (Go0 ?_)
      refine ⟨(), trivial, ?_⟩
      rw [hcut]
      exact Mv.k0
    ·intro _ _
     generalize Qo c x = nw at *
     generalize (QaV c x).cut = cut at *
     refine AWn.seq hΓ (Go0 ?_)
     refine CallN.pureA QqS (QqU c x hx ) (Go0 ?_)
     refine AWn.seq hΓ (Go0 ?_)
     refine CallN.pureA Qe9 (QeN Y.map o2 o1 ) (Go0 ?_)
     rw [hAll]
     have hAl : (winL c x).length ≤ 1000000000 := by rw [← hAll]; exact Qq1 o1 o2
     have hFl := Qks c hx
     generalize winL c x = A at *
     generalize QaP c x = L at *
     refine AWn.seq hΓ (Go0 ?_)
     refine Lp.mkK hΓ (ι := Nat) [9, 10, 13, 15, 16, 17, 18] (fun k => [(19, .c (.int .i64 k))]) (fun _ => [.vr c.cells, .vr x.cells, .vr Y.cells, .vr (Bas.cells { nw.1 with cut := cut })]) (fun k => k ≤ A.length) (fun k => A.length - k) 0 (Nat.zero_le _) ?_ ?_
     ·exact Mv.k0
     ·intro k hk
      refine Go1 fun _h=>?_
      refine Br.of (fun h2=>Go0 ?_) (fun h2=>Go0 ?_)
      ·have w0 := Qa (↑k + 1) (by omega) (by omega)
       have hka : A.getD k default ∈ A := by
        have hkl : k < A.length := by omega
        rw [List.getD_eq_getElem?_getD, List.getElem?_eq_getElem hkl]
        exact List.getElem_mem hkl
       obtain ⟨p1, p2, p3, p4, p5, p6, p7, p8⟩ := hPl _ hka
       refine Dr.mk hΓ hMix (by kernel_rfl) (Go0 ?_)
       refine CallP.auto Qgw (Qgu x (A.getD k default).zone (A.getD k default).offset ) (Go0 ?_)
       rw [p1]
       generalize Qbi x (A.getD k default).zone (A.getD k default).offset = sc at *
       refine CallN.pureA QhJ (QhA sc ) (Go0 ?_)
       refine Dr.mk hΓ hMix (by kernel_rfl) (Go0 ?_)
       refine Br.no (by rw [Int.toNat_natCast, p2, p3, p4, p5, p6, decide_eq_false (show ¬ (A.getD k default).block ≥ c.blocks by omega)]; simp) (Go0 ?_)
       refine Lp.mkK hΓ (ι := Nat) [9, 10, 13, 15, 16, 17, 18, 19] (fun j => [(24, .c (.int .i64 j))]) (fun _ => [.vr c.cells, .vr x.cells, .vr Y.cells, .vr (Bas.cells { nw.1 with cut := cut })]) (fun j => j ≤ L.length) (fun j => L.length - j) 0 (Nat.zero_le _) ?_ ?_
       ·exact Mv.k0
       ·intro j hj
        refine Go1 fun _h=>?_
        refine Br.of (fun h4=>Go0 ?_) (fun h4=>Go0 ?_)
        ·have w1 := Qa (↑j + 1) (by omega) (by omega)
         have hja : L.getD j default ∈ L := by
          have hjl : j < L.length := by omega
          rw [List.getD_eq_getElem?_getD, List.getElem?_eq_getElem hjl]
          exact List.getElem_mem hjl
         have p9 := p8 _ hja
         refine Dr.mk hΓ hMix (by kernel_rfl) (Go0 ?_)
         refine Br.no (Qu6 (a := (L.getD j default).r.block) (b := (A.getD k default).block) (v := (L.getD j default).r.version) (w := (A.getD k default).version) (cut := cut) p9) (Go0 ?_)
         refine ⟨j + 1, by omega, by omega, ?_⟩
         exact Mv.k0
        ·refine ⟨k + 1, by omega, by omega, ?_⟩
         exact Mv.k0
      ·refine AWn.ofVc hΓ (Go0 ?_)
       rw [show (Y.slot == nw.2) = true by rw [hSl]; simp]
       refine CallG.auto Qgo (fun _ => Qgj ) (Go0 ?_)
       exact RM.i0
   ·refine Br.yes (by simpa using hE) ?_
    rw [show QbI c x = default from if_neg hE]
    refine Go0 ?_
    refine CallN.pureA Qe9 (QeN ([] : List (List Ent)) (fun i => by show ([] : List Ent).length ≤ 1000000; simp) (by simp) ) (Go0 ?_)
    rw [show allS ([] : List (List Ent)) = [] from rfl]
    refine CallN.pureA Qqp (Qqg ) (Go0 ?_)
    refine CallG.auto Qgo (fun _ => Qgj ) (Go0 ?_)
    exact RM.i0
 ·refine Br.yes (by rw [decide_eq_false h1]; rfl) (Go0 ?_)
  refine CallN.pureA Qgo (Qgj ) (Go0 ?_)
  exact RM.i0
end Go.Proofs
end
