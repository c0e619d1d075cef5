/- Contracts, lemmas; no condition. -/
import Derived.Test.YtjjlblnbeggejaaGreatP22
import Derived.Test.YtjjlblnbeggejaaGreatP21
import Derived.Shelf.SlSortCmp.NoneTotal
set_option linter.all false
section
open Go Go.Am
namespace Go.Proofs
set_option maxRecDepth 20000
variable {m : List (List Ent)} {k i : Nat} {l : List Ent} {b : Int}
def QaB (m : List (List Ent)) (k : Nat) : List Ent := (m.take k).flatten
theorem Qcz (hk : k < m.length) : QaB m (k + 1) = QaB m k ++ m.getD k default := by
 unfold QaB
 rw [Qb9 m hk, List.flatten_append]
 simp
theorem Qf5 (m : List (List Ent)) : QaB m m.length = m.flatten := by unfold QaB; rw [Qzc]
theorem Qcy {m : List (List Ent)} : ∀ {k : Nat}, k ≤ m.length → (∀ i, (m.getD i default).length ≤ 1000000) → (QaB m k).length ≤ k * 1000000
 | 0, _, _ => by simp [QaB]
 | k + 1, hk, h => by
  rw [Qcz om, QxL]
  have := Qcy (k := k) om h
  have := h k
  omega
set_option maxHeartbeats 4000000 in
theorem Qon (m : List (List Ent)) (hm : m.length ≤ 8) (hs : ∀ i, (m.getD i default).length ≤ 1000000) : CS 294 [.c (QC m)] [] fun s H => s = .c (.sl 0 6 m.flatten.length m.flatten.length false) ∧ H = [.arr 47 6 m.flatten.length (entG m.flatten)] := by
 refine CSpec.rm ?_
 refine ov hΓ Tryz.func294 36 0 [.tmp 2] Tryz.ntmps294 Tryz.results294 ?_
 refine Go1 fun _h=>?_
 refine QuY hΓ (ι := Nat) [0, 2, 9, 10] (fun i => [(11, .c (.int .i64 i)), (3, .c (.int .i64 (QaB m i).length))]) (fun _ => []) (fun k => k ≤ m.length) (fun i => m.length - i) 0 (Qxx _) ?_ ?_
 ·exact QuW
 ·intro k hk
  have hsk := hs k
  have hfl := Qcy hk hs
  refine Go0 ?_
  refine Br.of (fun h1=>Go1 fun _h=>?_) (fun h1=>Go0 ?_)
  ·have w0 := Qa (↑k + 1) om om
   have w1 : IntKind.i64.wrap (↑(QaB m k).length + ↑(m.getD k default).length) = ↑(QaB m (k + 1)).length := by
    rw [Qcz om, QxL]
    exact Qa _ om om
   have e0 : (k : Int).toNat = k := rfl
   refine Br.no (QxE (by rw [e0, w1]; omega)) (Go0 ?_)
   refine ⟨k + 1, om, om, ?_⟩
   exact QuW
  ·have : k = m.length := by omega
   subst this
   have hfa : (QaB m m.length).length ≤ 8000000 := by have := Qcy (k := m.length) (QxB _) hs; omega
   refine CallN.autoQ [] growE_body (growE_spec (QaB m m.length).length om) (Go1 fun _h=>?_)
   refine QuY hΓ (ι := Nat) [2, 25, 26] (fun i => [(27, .c (.int .i64 i)), (6, .c (.sl 0 6 (QaB m i).length (QaB m i).length false))]) (fun i => [.arr 47 6 (QaB m i).length (entG (QaB m i))]) (fun k => k ≤ m.length) (fun i => m.length - i) 0 (Qxx _) ?_ ?_
   ·refine Qvm ?_
    exact fun i hi => by omega
   ·intro q hq
    have hsq := hs q
    have hfq := Qcy hq hs
    have hsq2 : (m.getD (q : Int).toNat default).length ≤ 1000000 := hs _
    refine Go0 ?_
    refine Br.of (fun h3=>Go0 ?_) (fun h3=>Go0 ?_)
    ·have w2 := Qa (↑q + 1) om om
     have e1 : (q : Int).toNat = q := rfl
     have hlq : (QaB m (q + 1)).length = (QaB m q).length + (m.getD q default).length := by rw [Qcz om, QxL]
     refine ⟨q + 1, om, om, ?_⟩
     refine Qvm ?_
     intro i hi j hj
     rw [Qcz om]
     exact WC.eq (Qsv rfl j) (Qaw _ _)
    ·have : q = m.length := by omega
     subst this
     refine ⟨_, _, ?_, rfl, rfl⟩
     rw [Qf5]
     exact QvB
theorem QnP : HB 294 := hB Tryz.func294
def Qac (m : List (List Ent)) (i k : Nat) : List Ent := (QaB m i ++ (m.getD i default).take k).foldl insE []
theorem Qjh (m : List (List Ent)) (i : Nat) : Qac m i 0 = (QaB m i).foldl insE [] := by simp [Qac]
theorem QjG (hk : k < (m.getD i default).length) : Qac m i (k + 1) = insE (Qac m i k) ((m.getD i default).getD k default) := by
 unfold Qac
 rw [Qb9 _ hk, ← QyH, List.foldl_append]
 rfl
theorem QpX (hi : i < m.length) : Qac m i (m.getD i default).length = Qac m (i + 1) 0 := by
 rw [Qjh, Qcz hi]
 unfold Qac
 rw [Qzc]
theorem QrN (m : List (List Ent)) : Qac m m.length 0 = allM m := by rw [Qjh, Qf5]; rfl
theorem QjX (l : List Ent) : ∀ out : List Ent, (l.foldl insE out).length = out.length + l.length := by
 induction l with
 | nil => intro out; rfl
 | cons x l ih => intro out; simp only [List.foldl_cons, ih, Qme, QxR]; omega
theorem QrE (hm : m.length ≤ 8) (hs : ∀ i, (m.getD i default).length ≤ 1000000) (hi : i ≤ m.length) : (Qac m i k).length ≤ 9000000 := by
 unfold Qac
 rw [QjX, QxL, QxO]
 have := Qcy hi hs
 have := hs i
 simp only [Qx5]
 omega
theorem QrW {a n : Nat} (hn : n ≤ l.length) (h : Qa3 l b n = Qa3 l b a) (ha : 0 < a) (h2 : b < (l.getD (a - 1) default).block) : Qa3 l b n = Qa3 l b (a - 1) := by
 rw [h]
 obtain ⟨a', rfl⟩ : ∃ a', a = a' + 1 := ⟨a - 1, om⟩
 simp only [Nat.add_sub_cancel] at h2 ⊢
 exact Qxt h2
theorem QqN {a : Nat} (h : ¬ (0 < a ∧ b < (l.getD (a - 1) default).block)) : Qa3 l b a = a := by
 cases a with
 | zero => rfl
 | succ a =>
  unfold Qa3
  rw [Qxu]
  intro c
  exact h ⟨om, by simpa using c⟩
theorem Qp4 {a b : List Ent} (h : i < a.length) : (a ++ b).getD i default = a.getD i default := by
 simp only [List.getD, QxS h]
theorem QiU {a b : List Ent} (h : a.length ≤ i) : (a ++ b).getD i default = b.getD (i - a.length) default := by
 simp only [List.getD, QxY h]
theorem QtR {x : Ent} {at_ n : Nat} {t : List C} {g0 : Nat → Nat → C} (hn : n = l.length) (ha : at_ ≤ n) (hs : Qa3 l x.block l.length = at_) {j : Nat} (hi : i < l.length + 1) (hj : j < 6) :
  cutG (cutG (entG l) at_ 1 (QaE 6 (.int .i64 x.block :: .int .i64 x.kind :: .int .i64 x.version :: .int .i64 x.move :: .int .i64 x.zone :: .int .i64 x.offset :: t))) (at_ + 1) (0 + (n - at_)) (appG g0 0 (fun i j => entG l (at_ + i) j)) i j = entG (insE l x) i j := by
 subst hn
 rw [QxX]
 unfold cutG appG insE
 rw [hs]
 have e : entG (l.take at_ ++ x :: l.drop at_) i j = ((l.take at_ ++ x :: l.drop at_).getD i default).cell j := rfl
 rw [e]
 have hlt : (l.take at_).length = at_ := by rw [QxO]; omega
 by_cases c1 : i < at_
 ·rw [Qxt om, Qxt c1]
  rw [Qp4 (by rw [hlt]; exact c1)]
  show (l.getD i default).cell j = _
  congr 1
  simp [List.getD, c1]
 ·by_cases c2 : i = at_
  ·subst c2
   rw [Qxt om, Qxu om, Qxt om]
   rw [QiU (by rw [hlt]; exact QxB _), hlt, Nat.sub_self]
   match j, hj with
   | 0, _ => rfl
   | 1, _ => rfl
   | 2, _ => rfl
   | 3, _ => rfl
   | 4, _ => rfl
   | 5, _ => rfl
  ·rw [Qxu om, Qxt om, Qxu om]
   rw [QiU (by rw [hlt]; omega), hlt]
   show (l.getD (at_ + (i - (at_ + 1) - 0)) default).cell j = _
   congr 1
   obtain ⟨q, hq⟩ : ∃ q, i = at_ + 1 + q := ⟨i - at_ - 1, om⟩
   subst hq
   rw [show at_ + 1 + q - at_ = q + 1 by omega, show at_ + (at_ + 1 + q - (at_ + 1) - 0) = at_ + q by omega]
   simp [List.getD]
set_option maxHeartbeats 4000000 in
theorem QgX (m : List (List Ent)) (hs : ∀ i, (m.getD i default).length ≤ 1000000) (hml : m.length ≤ 1000000) : PS 121 [.a [QC m]] (.c (Qap (allS m))) := by
 refine PSpec.rm ?_
 refine ov0 hΓ Tryz.func121 73 0 [.tmp 2] Tryz.ntmps121 Tryz.results121 ?_
 refine QuU Qff (Qe4 m hml hs ) (Go0 ?_)
 by_cases h : Qx m = true
 ·refine Br.no (by rw [h]; rfl) (Go0 ?_)
  have hm := Qbw h
  rw [show allS m = allM m from Qxt h]
  refine Qwu 47 6 (entG []) 3 rfl ?_
  refine QuY hΓ (ι := Nat) [1, 2] (fun i => [(4, .c (.int .i64 i)), (3, .c (.sl 1 6 (Qac m i 0).length (Qac m i 0).length false))]) (fun i => [.vr [QC m], .arr 47 6 (Qac m i 0).length (entG (Qac m i 0))]) (fun k => k ≤ m.length) (fun i => m.length - i) 0 (Qxx _) ?_ ?_
  ·exact QuW
  ·intro k hk
   have hsk := hs k
   refine Go1 fun _h=>?_
   refine Br.of (fun h1=>?_) (fun h1=>?_)<;>(try simp only [Qxy] at h1)<;>refine Go0 ?_
   ·refine QuY hΓ (ι := Nat) [1, 2, 4] (fun q => [(5, .c (.int .i64 q)), (3, .c (.sl 1 6 (Qac m k q).length (Qac m k q).length false))]) (fun q => [.vr [QC m], .arr 47 6 (Qac m k q).length (entG (Qac m k q))]) (fun q => q ≤ (m.getD k default).length) (fun q => (m.getD k default).length - q) 0 (Qxx _) ?_ ?_
    ·exact QuW
    ·intro q hq
     have hlq := QrE (k := q) hm.2 hs hk
     refine Go1 fun _h=>?_
     have e0 : (k : Int).toNat = k := rfl
     refine Br.of (fun h2=>?_) (fun h2=>?_)<;>(try simp only [Qxy] at h2)<;>refine Go0 ?_
     ·refine QuY hΓ (ι := Nat) [1, 2, 3, 4, 5] (fun a => [(6, .c (.int .i64 a))]) (fun _ => [.vr [QC m], .arr 47 6 (Qac m k q).length (entG (Qac m k q))]) (fun a => a ≤ (Qac m k q).length ∧ Qa3 (Qac m k q) ((m.getD k default).getD q default).block (Qac m k q).length = Qa3 (Qac m k q) ((m.getD k default).getD q default).block a) (fun a => a) (Qac m k q).length ⟨QxB _, rfl⟩ ?_ ?_
      ·exact QuW
      ·rintro a ⟨ha, ha2⟩
       refine Go0 ?_
       refine Dr.mk hΓ hMix (by kernel_rfl) ?_; conv=>whnf
       have hw : IntKind.i64.wrap (↑a - 1) = ↑a - 1 := Qa _ om om
       refine Go0 ?_
       refine Frc.mk (.c (.int .i64 ((Qac m k q).getD (IntKind.i64.wrap (↑a - 1)).toNat default).block)) rfl (Go0 ?_)
       have hp : 0 < a → (IntKind.i64.wrap (↑a - 1)).toNat = a - 1 := fun h0 => by rw [hw]; omega
       by_cases c : 0 < a ∧ ((m.getD k default).getD q default).block < ((Qac m k q).getD (a - 1) default).block
       ·refine Br.yes (by rw [hp c.1]; simp [-List.getD_eq_getElem?_getD, c.1, c.2]) ?_
        refine Go0 ?_
        refine ⟨a - 1, ⟨om, QrW (QxB _) ha2 c.1 c.2⟩, om, ?_⟩
        exact QuW
       ·refine Br.no (QxG.2 fun e => c (by
         by_cases c0 : 0 < a
         ·rw [hp c0] at e
          simp [-List.getD_eq_getElem?_getD] at e
          exact e
         ·have : a = 0 := by omega
          subst this
          simp at e)) ?_
        refine Go0 ?_
        have hst := QqN c
        have hle : a ≤ (Qac m k q).length := ha
        have hqb : q < (m.getD k default).length := by omega
        refine Qvd hΓ hMix [4294967297] [(13, 12)] (by kernel_rfl) (Go0 ?_)
        have w0 := Qa (↑q + 1) om om
        refine ⟨q + 1, om, om, ?_⟩
        have hln : (Qac m k (q + 1)).length = (Qac m k q).length + 1 := by rw [QjG hqb, Qme]
        refine Qvm ?_
        intro i hi j hj
        exact WC.eq ((QtR (x := (m.getD k default).getD q default) rfl hle (ha2.trans hst) om hj).trans (by rw [QjG hqb])) (Qaw _ _)
     ·have w0 := Qa (↑k + 1) om om
      have : q = (m.getD k default).length := by omega
      subst this
      refine ⟨k + 1, om, om, ?_⟩
      rw [QpX om]
      exact QuW
   ·have : k = m.length := by omega
    subst this
    rw [QrN]
    exact Qwj (QvI rfl rfl rfl (fun _ _ _ _ => rfl) (fun _ _ => Qaw _ _))
 ·refine Br.yes (by rw [Qq h]; rfl) (Go0 ?_)
  rw [show allS m = [] from Qxu h]
  exact QuV
theorem Qgm : HB 121 := hB Tryz.func121
theorem QhA (c : Conf) (w : Wrk) : PS 131 [.a c.cells, .a w.cells] (.c (.bool (Qd3 c w))) := by
 refine PSpec.rm ?_
 refine ov0 hΓ Tryz.func131 46 0 [.tmp 4] Tryz.ntmps131 Tryz.results131 ?_
 by_cases h0 : w.state = 0
 ·refine Br.yes (by simpa using h0) (Go0 ?_)
  rw [show Qd3 c w = true from Qxz (Or.inl h0)]
  exact QuV
 ·refine Br.no (by simpa using h0) (Go0 ?_)
  refine QuU QdB (QdI c w.req ) (Go0 ?_)
  by_cases h1 : cmdE c w.req = 0
  ·refine Br.no (by simpa using h1) (Go0 ?_)
   have hk : 1 ≤ w.req.kind ∧ w.req.kind ≤ 4 := by
    unfold cmdE at h1
    split at h1
    ·cases h1
    ·omega
   refine Br.of (fun h2=>?_) (fun h2=>?_)<;>(try simp only [Qxy] at h2)<;>refine Go0 ?_
   ·refine Qvj rfl (WS.c (WC.bool ?_))
    unfold Qd3
    rw [QxW, Qxw]
    simp
    omega
   ·refine Br.of (fun h3=>?_) (fun h3=>?_)<;>(try simp only [Qxy] at h3)<;>refine Go0 ?_
    ·refine Qvj rfl (WS.c (WC.bool ?_))
     unfold Qd3
     rw [QxW, Qxw]
     simp
     omega
    ·refine Qvj rfl (WS.c (WC.bool ?_))
     unfold Qd3
     rw [QxW, Qxw]
     simp
     omega
  ·refine Br.yes (by simpa using h1) (Go0 ?_)
   rw [show Qd3 c w = false from QxE (fun q => by rcases q with q | q; exact h0 q; exact h1 q.1)]
   exact QuV
theorem Qh7 : HB 131 := hB Tryz.func131
structure Ser (s : St) : Prop where
 evs : ∀ i, i < s.evs.length → (s.evs.getD i default).serial < s.serial
 items : ∀ i, i < s.rings.length → ∀ k, k < (s.rings.getD i default).items.length → ((s.rings.getD i default).items.getD k default).serial < s.serial
 works : ∀ i, i < s.rings.length → (s.works.getD i default).state = 0 ∨ (s.works.getD i default).req.serial < s.serial
 rng : 0 ≤ s.serial ∧ s.serial ≤ 1099511627776
instance (s : St) : Decidable (Ser s) := decidable_of_iff ((∀ i, i < s.evs.length → (s.evs.getD i default).serial < s.serial) ∧ (∀ i, i < s.rings.length → ∀ k, k < (s.rings.getD i default).items.length → ((s.rings.getD i default).items.getD k default).serial < s.serial) ∧ (∀ i, i < s.rings.length → (s.works.getD i default).state = 0 ∨ (s.works.getD i default).req.serial < s.serial) ∧ 0 ≤ s.serial ∧ s.serial ≤ 1099511627776) ⟨fun ⟨a, b, c, d⟩ => ⟨a, b, c, d⟩, fun h => ⟨h.evs, h.items, h.works, h.rng⟩⟩
set_option maxHeartbeats 2000000 in
theorem Qhd (s : St) (hs : s.small) (hw : s.rings.length ≤ s.works.length) : PS 132 [.a s.cells] (.c (.bool (decide (Ser s)))) := by
 have he := hs.evs
 have hr := hs.rings
 refine PSpec.rm ?_
 refine ov0 hΓ Tryz.func132 80 0 [.tmp 2] Tryz.ntmps132 Tryz.results132 ?_
 refine QuY hΓ (ι := Nat) [1] (fun i => [(3, .c (.int .i64 i))]) (fun _ => [.vr s.cells]) (fun k => k ≤ s.evs.length ∧ ∀ i, i < k → (s.evs.getD i default).serial < s.serial) (fun i => s.evs.length - i) 0 ⟨Qxx _, fun j hj => absurd hj (QxN _)⟩ ?_ ?_
 ·exact QuW
 ·rintro k ⟨hk, hk2⟩
  refine Go1 fun _h=>?_
  refine Br.of (fun h1=>?_) (fun h1=>?_)<;>(try simp only [Qxy] at h1)<;>refine Go0 ?_
  ·have w0 := Qa (↑k + 1) om om
   refine Dr.mk hΓ hMix (by kernel_rfl) (Go0 ?_)
   refine Br.of (fun h2=>?_) (fun h2=>?_)<;>(try simp only [Qxy] at h2)<;>refine Go0 ?_
   ·rw [QxE (fun z : Ser s => by have := z.evs k om; omega)]
    exact QuV
   ·refine ⟨k + 1, ⟨om, Q0 hk2 om⟩, om, ?_⟩
    exact QuW
  ·have hev : ∀ i, i < s.evs.length → (s.evs.getD i default).serial < s.serial := fun i hi => hk2 i om
   refine QuY hΓ (ι := Nat) [1] (fun i => [(4, .c (.int .i64 i))]) (fun _ => [.vr s.cells]) (fun k => k ≤ s.rings.length ∧ ∀ i, i < k → (∀ j, j < (s.rings.getD i default).items.length → ((s.rings.getD i default).items.getD j default).serial < s.serial) ∧ ((s.works.getD i default).state = 0 ∨ (s.works.getD i default).req.serial < s.serial)) (fun i => s.rings.length - i) 0 ⟨Qxx _, fun j hj => absurd hj (QxN _)⟩ ?_ ?_
   ·exact QuW
   ·rintro n ⟨hn, hn2⟩
    refine Go1 fun _h=>?_
    refine Br.of (fun h3=>?_) (fun h3=>?_)<;>(try simp only [Qxy] at h3)<;>refine Go0 ?_
    ·have hi := hs.items n
     refine QuY hΓ (ι := Nat) [1, 4] (fun i => [(5, .c (.int .i64 i))]) (fun _ => [.vr s.cells]) (fun k => k ≤ (s.rings.getD n default).items.length ∧ ∀ i, i < k → ((s.rings.getD n default).items.getD i default).serial < s.serial) (fun i => (s.rings.getD n default).items.length - i) 0 ⟨Qxx _, fun j hj => absurd hj (QxN _)⟩ ?_ ?_
     ·exact QuW
     ·rintro m ⟨hm, hm2⟩
      refine Go1 fun _h=>?_
      refine Br.of (fun h4=>?_) (fun h4=>?_)<;>(try simp only [Qxy] at h4)<;>refine Go0 ?_
      ·have w0 := Qa (↑m + 1) om om
       refine Dr.mk hΓ hMix (by kernel_rfl) (Go0 ?_)
       refine Br.of (fun h5=>?_) (fun h5=>?_)<;>(try simp only [Qxy] at h5)<;>refine Go0 ?_
       ·rw [QxE (fun z : Ser s => by have := z.items n om m om; omega)]
        exact QuV
       ·refine ⟨m + 1, ⟨om, Q0 hm2 om⟩, om, ?_⟩
        exact QuW
      ·have w0 := Qa (↑n + 1) om om
       refine Dr.mk hΓ hMix (by kernel_rfl) (Go0 ?_)
       by_cases d : (s.works.getD n default).state = 0 ∨ (s.works.getD n default).req.serial < s.serial
       ·refine Br.no (QxG.2 fun ebye => by simp [-List.getD_eq_getElem?_getD, -Int.default_eq_zero, d] at ebye <;> grind) ?_; conv=>whnf
        refine Go0 ?_
        refine ⟨n + 1, ⟨om, Q0 hn2 ⟨fun j hj => hm2 j om, d⟩⟩, om, ?_⟩
        exact QuW
       ·refine Br.yes (QxC fun ebye => d (by simp [-List.getD_eq_getElem?_getD, -Int.default_eq_zero] at ebye <;> grind)) ?_; conv=>whnf
        refine Go0 ?_
        rw [QxE (fun z : Ser s => d (z.works n om))]
        exact QuV
    ·refine Qvj rfl (WS.c (WC.bool ?_))
     rw [QxW, Qxw]
     simp
     exact ⟨fun h => ⟨hev, fun i hi => (hn2 i om).1, fun i hi => (hn2 i om).2, h⟩, fun h => h.rng⟩
theorem Qhv : HB 132 := hB Tryz.func132
end Go.Proofs
end

section
open Go Go.Am
namespace Go.Proofs
set_option maxRecDepth 20000
open Go.Shelf Go.RowKit Go.Lib Go.Sort
theorem Qqz (gx : Nat → C) (g : Nat → Nat → C) : CS 295 [.c (.sl 0 6 0 0 false), .c (.fn (.func 296) 0 gx)] [.arr 47 6 0 g] fun s H => s = .t [] ∧ H = [.arr 47 6 0 g] := by
 intro K F μ w vs hw hA
 have h0 : getL [O.arr 47 6 0 g] 0 = some (.arr 47 6 0 g) := rfl
 obtain ⟨v, v1, v2⟩ := hA.2 0 _ rfl
 obtain ⟨u, u1, u2⟩ := hA.2 1 _ rfl
 obtain ⟨_, e', n', g'', y1, y2, y3, y4⟩ := v2
 have en : n' = 0 := by rw [h0] at y1; cases y1; rfl
 obtain ⟨a, cap, z1, z2, -⟩ := y4 en.symm
 have hvs : vs = #[.slice a 0 cap, u] := by
  apply QyM
  intro j
  match j with
  | 0 => rw [v1, z2]; rfl
  | 1 => rw [u1]; rfl
  | j + 2 => rw [Qx1 (by rw [hA.1]; simp), Qx1 (by simp)]
 subst hvs
 have hc := AnyF.slices_SortFunc_none (P := Tryz.prog) Qwv a cap u w
 refine Calls.mono hc ?_
 rintro e w' ⟨rfl, rfl⟩
 exact ⟨_, F, μ, .t [], _, rfl, Mem.le_refl F, hw, Ext.refl _ _, ⟨#[], rfl, rfl, fun j x hx => by simp [getL] at hx⟩, rfl, rfl⟩
theorem Qqh : HB 295 := hB Tryz.func295
set_option maxHeartbeats 4000000 in
theorem Qrw (m : List (List Ent)) (h : Qx m = true) (hs : ∀ i, (m.getD i default).length ≤ 1000000) (hb : ∀ i, i < m.length → ∀ e ∈ m.getD i default, e.block ≤ 9223372036854775807) : PS 268 [.a [QC m]] (.c (Qap (allM m))) := by
 refine PSpec.rm ?_
 have hm := Qbw h
 have hfl : m.flatten.length ≤ 8000000 := by
  have := Qcy (m := m) (k := m.length) (QxB _) hs
  rw [Qf5] at this
  omega
 have hla : (allM m).length = m.flatten.length := (QcJ h).2.length_eq
 have hbe : ∀ e ∈ m.flatten, 0 ≤ e.block ∧ e.block ≤ 9223372036854775807 := fun e he => by
  obtain ⟨l, h1, h2⟩ := List.mem_flatten.1 he
  obtain ⟨i, hi, rfl⟩ := QxP h1
  rw [← Qu _ _ hi] at h2
  have := entOk_iff.1 (Qg6 h hi h2).2
  exact ⟨this.2.2.2.2.2.1, hb i hi e h2⟩
 refine ov0 hΓ Tryz.func268 18 0 [.tmp 2] Tryz.ntmps268 Tryz.results268 ?_
 refine QuU QkS (QkR m om hs ) (Go0 ?_)
 refine QuU QhG (QhZ m om hs ) (Go0 ?_)
 refine Br.no (by rw [h]; rfl) (Go0 ?_)
 refine CallN.autoI [] QnP (Qon m hm.2 hs) plh (Go0 ?_)
 by_cases h0 : m.flatten.length = 0
 ·have hz : m.flatten = [] := Qyg h0
  have hz2 : allM m = [] := Qyg (by rw [hla]; exact h0)
  rw [hz]
  refine CallN.autoI [2] Qqh (Qqz _ (entG [])) plh (Go0 ?_)
  rw [hz2]
  exact Qwj (QvI rfl rfl rfl (fun _ _ _ _ => rfl) (fun _ _ => Qaw _ _))
 ·refine CallN.autoI [2] sortE_body (sortE_spec m h m.flatten (List.Perm.refl _) hbe om om _) plh (Go0 ?_)
  exact Qwj (QvI rfl rfl hla.symm (fun _ _ _ _ => rfl) (fun _ _ => Qaw _ _))
theorem QtH {m : List (List Ent)} (h : Qx m = true) (hs : ∀ i, (m.getD i default).length ≤ 100000) (hb : ∀ i, i < m.length → ∀ e ∈ m.getD i default, e.block ≤ 9223372036854775807) : AllS m (allM m) := by
 have hfl : (allM m).length ≤ 1000000 := by
  rw [(QcJ h).2.length_eq, List.length_flatten]
  have h8 := Qbw h
  have : ∀ (l : List (List Ent)), (∀ x ∈ l, x.length ≤ 100000) → (l.map List.length).sum ≤ l.length * 100000 := by
   intro l
   induction l with
   | nil => intro _; simp
   | cons x l ih =>
    intro hx
    have h1 := ih (fun y hy => hx y (Qyi _ hy))
    have h2 := hx x (Qys ..)
    simp only [Qyz, List.sum_cons, QxR]
    omega
  have := this m (fun x hx => by
   obtain ⟨i, hi, rfl⟩ := QxP hx
   have := hs i
   rw [Qu _ _ hi] at this
   exact this)
  omega
 exact ⟨Qrw m h (fun i => by have := hs i; omega) hb, Qtd h, hfl⟩
end Go.Proofs
end

section
open Go Go.Am
namespace Go.Proofs
set_option maxRecDepth 20000
variable {s : St} {l : List Evt} {k : Nat}
def dice0 : DiceM := ⟨[], 0⟩
theorem Qte : dice0.ok := ⟨QxB _, by decide⟩
def fl0 : Req := ⟨0, 4, 0, ByteArray.empty⟩
def s0W : St := Qs (Q7 dice0)
def s1W : St := (Qo4 s0W 0 fl0).1
def s2W : St := (QrG true s1W 0).1
def s3W : St := (QoA s2W 0 0 ByteArray.empty).1
theorem QuX : AllS [[]] [] := by
 have h : Qx [[]] = true := by decide
 have e : allM [[]] = [] := rfl
 have := QtH h (fun i => by
  match i with
  | 0 => exact Qxx _
  | i + 1 => exact Qxx _) (fun i hi e he => by
  have : i = 0 := by simpa using hi
  subst this
  cases he)
 rw [e] at this
 exact this
structure Wk24 (s : St) : Prop where
 sm : s.small
 mp : s.map = [[]]
theorem Wk24.all (h : Wk24 s) : Qx s.map = true → AllS s.map [] := fun _ => by rw [h.mp]; exact QuX
theorem Wk24.mk' (h1 : s.map = [[]]) (h2 : s.dev.zones.length ≤ 100 ∧ s.live.length ≤ 100 ∧ s.pend.length ≤ 100 ∧ s.owner.length ≤ 100 ∧ s.pins.length ≤ 100 ∧ s.rets.length ≤ 100 ∧ s.free.length ≤ 100 ∧ s.rings.length ≤ 100 ∧ s.works.length ≤ 100 ∧ s.sav.ents.length ≤ 100 ∧ s.sav.recs.length ≤ 100 ∧ s.evs.length ≤ 100) (h3 : s.dev.small) (h4 : ∀ i, (s.rings.getD i default).items.length ≤ 1000000) : Wk24 s := by
 refine ⟨⟨h3, by rw [h1]; decide, fun i => by
  rw [h1]
  match i with
  | 0 => exact Qxx _
  | i + 1 => exact Qxx _, om, om, om, om, om, om, om, h4, om, om, om, om⟩, h1⟩
theorem Qsu {l : List Rng} (h : (l.all fun r => decide (r.items.length ≤ 1000)) = true) : ∀ i, (l.getD i default).items.length ≤ 1000000 := fun i => by
 by_cases c : i < l.length
 ·rw [Qu _ _ c]
  have := Qx2.1 h _ (Qx0 c)
  have := Qx4 this
  omega
 ·rw [show l.getD i default = default by simp [List.getD, QyB c]]
  exact Qxx _
theorem QtO {d : Dev} (h : d.zones.length ≤ 100 ∧ (d.zones.all fun z => decide (z.sectors.length ≤ 1000)) = true) : d.small := ⟨om, fun i => by
 by_cases c : i < d.zones.length
 ·rw [Qu _ _ c]
  have := Qx2.1 h.2 _ (Qx0 c)
  have := Qx4 this
  omega
 ·rw [show d.zones.getD i default = default by simp [List.getD, QyB c]]
  exact Qxx _⟩
def wkB (s : St) : Bool := decide (s.map = [[]]) && (decide (s.dev.zones.length ≤ 100 ∧ s.live.length ≤ 100 ∧ s.pend.length ≤ 100 ∧ s.owner.length ≤ 100 ∧ s.pins.length ≤ 100 ∧ s.rets.length ≤ 100 ∧ s.free.length ≤ 100 ∧ s.rings.length ≤ 100 ∧ s.works.length ≤ 100 ∧ s.sav.ents.length ≤ 100 ∧ s.sav.recs.length ≤ 100 ∧ s.evs.length ≤ 100) && ((s.dev.zones.all fun z => decide (z.sectors.length ≤ 1000)) && (s.rings.all fun r => decide (r.items.length ≤ 1000))))
theorem Qi2 (h : wkB s = true) : Wk24 s := by
 unfold wkB at h
 simp only [QxA, Qxw] at h
 exact Wk24.mk' h.1 h.2.1 (QtO ⟨h.2.1.1, h.2.2.1⟩) (Qsu h.2.2.2)
theorem w0 : Wk24 s0W := Qi2 (by decide +kernel)
theorem w1 : Wk24 s1W := Qi2 (by decide +kernel)
theorem w2 : Wk24 s2W := Qi2 (by decide +kernel)
theorem w3 : Wk24 s3W := Qi2 (by decide +kernel)
theorem f1 : (Qo4 s0W 0 fl0).2 = 0 := by decide +kernel
theorem f2 : (QrG true s1W 0).2 = true := by decide +kernel
theorem f3 : (QtB s2W).length = 1 := by decide +kernel
theorem f4 : (QoA s2W 0 0 ByteArray.empty).2 = true := by decide +kernel
theorem f5 : QtB s3W = [] := by decide +kernel
theorem f6 : s3W.evs.length = 2 := by decide +kernel
def evP (r : Bool) (s : Int) (e : Evt) : Bool := decide (e.ret = r ∧ e.serial = s)
def QuB (l : List Evt) (r : Bool) (s : Int) : Int := if l.any (evP r s) = true then (l.findIdx (evP r s) : Nat) else -1
theorem Qhp (l : List Evt) (n : Int) : l.any (evP false n) = QsU l n := by
 unfold QsU
 congr 1
 funext e
 unfold evP
 cases e.ret <;> simp
theorem Qu7 (l : List Evt) (n : Int) : l.any (evP true n) = Qq4 l n := by
 unfold Qq4
 congr 1
 funext e
 unfold evP
 cases e.ret <;> simp
theorem QdC (l : List Evt) (r : Bool) (s : Int) : decide (QuB l r s < 0) = !l.any (evP r s) := by
 unfold QuB
 split
 ·rename_i h; rw [h]; exact QxE om
 ·rename_i h; rw [Qq h]; rfl
theorem Qvn (l : List Evt) (s : Int) (hl : l.length ≤ 1000000) : PS 244 [.c (evC l), .c (.int .i64 s)] (.c (.int .i64 (QuB l false s))) := by
 refine PSpec.rm ?_
 refine ov0 hΓ Tryz.func244 28 0 [.tmp 4] Tryz.ntmps244 Tryz.results244 ?_
 refine QuY hΓ (ι := Nat) [0, 1] (fun k => [(5, .c (.int .i64 k))]) (fun k => []) (fun k => k ≤ l.length ∧ ∀ j, j < k → evP false s (l.getD j default) = false) (fun k => l.length - k) 0 ⟨Qxx _, fun j hj => absurd hj (QxN _)⟩ ?_ ?_
 ·exact QuW
 ·intro k ⟨hk, h0⟩
  refine Go1 fun _h=>?_
  refine Br.of (fun h1=>Go0 ?_) (fun h1=>Go0 ?_)
  ·have w0 := Qa (↑k + 1) om om
   rcases Bool.eq_false_or_eq_true (evP false s (l.getD k default)) with hb | hb
   ·have hb' : (l.getD k default).ret = false ∧ (l.getD k default).serial = s := Qx4 hb
    refine Br.yes (by simp [-List.getD_eq_getElem?_getD, hb'.1, hb'.2]) ?_
    refine Go0 ?_
    obtain ⟨q1, q2⟩ := QfG (p := evP false s) om hb h0
    rw [show QuB l false s = (k : Int) by unfold QuB; rw [Qxt q1, q2]]
    exact QuV
   ·have hb' : ¬ ((l.getD k default).ret = false ∧ (l.getD k default).serial = s) := of_decide_eq_false hb
    refine Br.no (QxG.2 fun e => hb' (by simpa [-List.getD_eq_getElem?_getD] using e)) ?_
    refine Go0 ?_
    refine ⟨k + 1, ⟨om, Q0 h0 hb⟩, om, ?_⟩
    exact QuW
  ·rw [show QuB l false s = -1 by unfold QuB; rw [Qxu (Qep (fun j hj => h0 j om))]]
   exact QuV
theorem Qve : HB 244 := hB Tryz.func244
theorem Qvo (l : List Evt) (s : Int) (hl : l.length ≤ 1000000) : PS 245 [.c (evC l), .c (.int .i64 s)] (.c (.int .i64 (QuB l true s))) := by
 refine PSpec.rm ?_
 refine ov0 hΓ Tryz.func245 27 0 [.tmp 4] Tryz.ntmps245 Tryz.results245 ?_
 refine QuY hΓ (ι := Nat) [0, 1] (fun k => [(5, .c (.int .i64 k))]) (fun k => []) (fun k => k ≤ l.length ∧ ∀ j, j < k → evP true s (l.getD j default) = false) (fun k => l.length - k) 0 ⟨Qxx _, fun j hj => absurd hj (QxN _)⟩ ?_ ?_
 ·exact QuW
 ·intro k ⟨hk, h0⟩
  refine Go1 fun _h=>?_
  refine Br.of (fun h1=>Go0 ?_) (fun h1=>Go0 ?_)
  ·have w0 := Qa (↑k + 1) om om
   rcases Bool.eq_false_or_eq_true (evP true s (l.getD k default)) with hb | hb
   ·have hb' : (l.getD k default).ret = true ∧ (l.getD k default).serial = s := Qx4 hb
    refine Br.yes (by simp [-List.getD_eq_getElem?_getD, hb'.1, hb'.2]) ?_
    refine Go0 ?_
    obtain ⟨q1, q2⟩ := QfG (p := evP true s) om hb h0
    rw [show QuB l true s = (k : Int) by unfold QuB; rw [Qxt q1, q2]]
    exact QuV
   ·have hb' : ¬ ((l.getD k default).ret = true ∧ (l.getD k default).serial = s) := of_decide_eq_false hb
    refine Br.no (QxG.2 fun e => hb' (by simpa [-List.getD_eq_getElem?_getD] using e)) ?_
    refine Go0 ?_
    refine ⟨k + 1, ⟨om, Q0 h0 hb⟩, om, ?_⟩
    exact QuW
  ·rw [show QuB l true s = -1 by unfold QuB; rw [Qxu (Qep (fun j hj => h0 j om))]]
   exact QuV
theorem Qvf : HB 245 := hB Tryz.func245
theorem openTo_cond : Qmm l (k + 1) = if (l.getD k default).ret = false ∧ Qq4 l (l.getD k default).serial = false ∧ QsU (l.take k) (l.getD k default).serial = false then Qmm l k ++ [(l.getD k default).serial] else Qmm l k := rfl
theorem Qxo {ρ : Nat → Nat} {n : Nat} {t : Bool} (h : k ≤ l.length) : WC ρ n (.isl 8 (k : Int).toNat (evG l) t) (evC (l.take k)) := by
 have e : (k : Int).toNat = k := by simp
 rw [e]
 refine WC.isl (by rw [QxO]; omega) (fun i hi j _ => ?_) (fun e => by cases e)
 unfold evG rowG
 congr 1
 simp [List.getD, hi]
set_option maxHeartbeats 4000000 in
theorem QnN (l : List Evt) (hl : l.length ≤ 1000000) : PS 180 [.c (evC l)] (.c (Qh (QtE l))) := by
 refine PSpec.rm ?_
 refine ov0 hΓ Tryz.func180 48 0 [.tmp 2] Tryz.ntmps180 Tryz.results180 ?_
 refine Qwu 3 1 (QaK .i64 []) 3 rfl ?_
 refine QuY hΓ (ι := Nat) [0, 2] (fun k => [(4, .c (.int .i64 k)), (3, .c (.sl 0 1 (Qmm l k).length (Qmm l k).length false))]) (fun k => [.arr 3 1 (Qmm l k).length (QaK .i64 (Qmm l k))]) (fun k => k ≤ l.length) (fun i => l.length - i) 0 (Qxx _) ?_ ?_
 ·exact QuW
 ·intro q hq
  have hlq := Qhz l q
  refine Go1 fun _h=>?_
  refine Br.of (fun h3=>Go0 ?_) (fun h3=>Go0 ?_)
  ·refine Dr.mk hΓ hMix (by kernel_rfl) (Go0 ?_)
   have hq' : q ≤ l.length := hq
   have w0 := Qa (↑q + 1) om om
   refine QwG Qve (fun _ => Qvn (l.take q) (l.getD q default).serial (by rw [QxO]; omega)) (by (first|exact wb0|refine wb1 ?_|refine wb2 ?_ ?_|refine wb3 ?_ ?_ ?_|refine wb4 ?_ ?_ ?_ ?_); exact Qxo hq') rfl ?_
   refine Go0 ?_
   refine QvE Qvf (fun _ => Qvo l (l.getD q default).serial hl ) (Go0 ?_)
   by_cases c : (l.getD q default).ret = false ∧ Qq4 l (l.getD q default).serial = false ∧ QsU (l.take q) (l.getD q default).serial = false
   ·have hto : Qmm l (q + 1) = Qmm l q ++ [(l.getD q default).serial] := openTo_cond.trans (Qxt c)
    have hl2 : (Qmm l (q + 1)).length = (Qmm l q).length + 1 := by rw [hto]; simp
    refine Br.yes (by
     have e1 := QdC (l.take q) false (l.getD q default).serial
     have e2 := QdC l true (l.getD q default).serial
     rw [Qhp, c.2.2] at e1
     rw [Qu7, c.2.1] at e2
     simp [-List.getD_eq_getElem?_getD, c.1] at e1 e2 ⊢
     exact ⟨e1, e2⟩) ?_
    refine Go0 ?_
    refine ⟨q + 1, om, om, ?_⟩
    refine Qvm ?_
    intro i hi j hj
    rw [hto]
    exact WC.eq (Qh3 rfl om hj) rfl
   ·have hto : Qmm l (q + 1) = Qmm l q := openTo_cond.trans (Qxu c)
    refine Br.no (QxG.2 fun e => c (by
     have e1 := QdC (l.take q) false (l.getD q default).serial
     have e2 := QdC l true (l.getD q default).serial
     rw [Qhp] at e1
     rw [Qu7] at e2
     simp [-List.getD_eq_getElem?_getD] at e
     rw [Qxz e.1.2] at e1
     rw [Qxz e.2] at e2
     exact ⟨e.1.1, by simpa using e2.symm, by simpa using e1.symm⟩)) ?_
    refine Go0 ?_
    refine ⟨q + 1, om, om, ?_⟩
    rw [hto]
    exact QuW
  ·have : q = l.length := by omega
   subst this
   exact Qwj (Fw.sl rfl rfl (fun i _ j _ => Fw.same rfl) (fun e => by cases e))
theorem QnJ : HB 180 := hB Tryz.func180
def QuT (kind err : Int) (rdata : ByteArray) : Bool :=
 if err = 0 then (if kind = 1 then decide (rdata.size = 16) else decide (rdata = ByteArray.empty))
 else if err = 7 ∨ err = 1 ∨ err = 2 ∨ err = 3 ∨ err = 12 then decide (rdata = ByteArray.empty) else false
def QuQ (p : List Evt) (x : Evt) : Bool :=
 decide (0 ≤ x.queue ∧ x.queue < 4 ∧ 0 ≤ x.serial) &&
 (if x.ret = false then !QsU p x.serial && !Qq4 p x.serial && decide (x.err = 0 ∧ x.rdata = ByteArray.empty)
 else QsU p x.serial && !Qq4 p x.serial && decide ((p.getD (QuB p false x.serial).toNat default).queue = x.queue ∧ (p.getD (QuB p false x.serial).toNat default).kind = x.kind ∧ (p.getD (QuB p false x.serial).toNat default).block = x.block ∧ (p.getD (QuB p false x.serial).toNat default).data = x.data) && QuT x.kind x.err x.rdata)
structure Live (l : List Evt) (q : Int) (x : Req) : Prop where
 inv : QsU l x.serial = true
 ans : Qq4 l x.serial = false
 same : (l.getD (QuB l false x.serial).toNat default).queue = q ∧ (l.getD (QuB l false x.serial).toNat default).kind = x.kind ∧ (l.getD (QuB l false x.serial).toNat default).block = x.block ∧ (l.getD (QuB l false x.serial).toNat default).data = x.data
 pos : 0 ≤ x.serial
def QuK (l : List Evt) : Prop := ∀ k, k < l.length → QuQ (l.take k) (l.getD k default) = true
structure Hist (s : St) : Prop where
 right : QuK s.evs
 rings : ∀ i, i < s.rings.length → ∀ k, k < (s.rings.getD i default).items.length → Live s.evs i ((s.rings.getD i default).items.getD k default)
 works : ∀ i, i < s.rings.length → (s.works.getD i default).state ≠ 0 → Live s.evs i (s.works.getD i default).req
 apart : ∀ i, i < s.rings.length → (s.works.getD i default).state ≠ 0 → ∀ k, k < (s.rings.getD i default).items.length → ((s.rings.getD i default).items.getD k default).serial ≠ (s.works.getD i default).req.serial
theorem Live.queue {q q' : Int} {x y : Req} (h : Live l q x) (h' : Live l q' y) (e : x.serial = y.serial) : q = q' := by
 have a := h.same.1
 have b := h'.same.1
 rw [e] at a
 exact a.symm.trans b
end Go.Proofs
end
