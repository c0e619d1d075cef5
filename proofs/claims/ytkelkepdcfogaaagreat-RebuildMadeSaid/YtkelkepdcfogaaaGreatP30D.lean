/- Contracts, lemmas; no condition. -/
import Derived.Test.YtkelkepdcfogaaaGreatP11D
import Derived.Test.YtkelkepdcfogaaaGreatP29D
import Derived.Test.YtkelkepdcfogaaaGreatP17D
import Derived.Test.YtkelkepdcfogaaaGreatP14D
set_option linter.all false
section
open Go Go.Am
namespace Go.Proofs
set_option maxRecDepth 20000
structure MInv (c : Conf) (x : Dev) (m : List (List Ent)) (k : Nat) : Prop where
 ok : x.ok
 n : (x.zones.length : Int) = c.zones
 size : x.size = c.size
 sec : ∀ z : Nat, 2 * Qi c ≤ z → ∀ s ∈ (x.zones.getD z default).sectors, Qgg c.blocks s
 ml : m.length = 1
 ent : AllE (fun e => e.block < c.blocks ∧ 2 * Qi c ≤ e.zone) m
 len : ∀ i, (m.getD i default).length ≤ k
theorem QtH {m : List (List Ent)} {n : Nat} (h1 : m.length = 1) (h2 : ∀ i, (m.getD i default).length ≤ n) : (allS m).length ≤ n := by
 unfold allS
 split
 ·unfold allM
  have key : ∀ (r acc : List Ent), (r.foldl insE acc).length = acc.length + r.length := by
   intro r
   induction r with
   | nil => intro acc; rfl
   | cons x r ih => intro acc; rw [List.foldl_cons, ih, Qio, List.length_cons]; omega
  rw [key]
  match m, h1 with
  | [l], _ =>
   have := h2 0
   simp at this ⊢
   exact this
 ·exact Nat.zero_le _
theorem Qtx (m : List (List Ent)) (b v fz fo tz t2 move : Int) : (relM m b v fz fo tz t2 move).1.length = m.length := by
 unfold relM
 split
 ·split
  ·simp
  ·rfl
 ·rfl
theorem Qvl {m : List (List Ent)} {n : Nat} (h : ∀ i, (m.getD i default).length ≤ n) (b v fz fo tz t2 move : Int) (i : Nat) : ((relM m b v fz fo tz t2 move).1.getD i default).length ≤ n := by
 have hi := h i
 unfold relM
 split
 ·rename_i q
  split
  ·rw [QeH (Qb6 q.1 q.2)]
   split
   ·have hst := h (Ql m b)
    unfold relE
    split
    ·split
     ·show (List.set _ _ _).length ≤ n
      rw [List.length_set]; exact hst
     ·exact hst
    ·exact Nat.zero_le _
   ·exact hi
  ·exact hi
 ·exact hi
theorem MInv.mono {c : Conf} {x : Dev} {m : List (List Ent)} {k k' : Nat} (h : MInv c x m k) (hk : k ≤ k') : MInv c x m k' :=
 ⟨h.ok, h.n, h.size, h.sec, h.ml, h.ent, fun i => Nat.le_trans (h.len i) hk⟩
theorem MInv.append {c : Conf} {x : Dev} {m : List (List Ent)} {k : Nat} (h : MInv c x m k) (z : Int) {s : ByteArray} (hs : Qgg c.blocks s) : MInv c (Qy x z s) m k := by
 refine ⟨Qde h.ok z s, by rw [Qf8]; exact h.n, (Qh3 x z s).trans h.size, fun i hi t ht => ?_, h.ml, h.ent, h.len⟩
 rw [Qf3] at ht
 split at ht
 ·rcases List.mem_append.1 ht with q | q
  ·exact h.sec i hi t q
  ·rw [List.mem_singleton.1 q]; exact hs
 ·exact h.sec i hi t ht
theorem MInv.save {c : Conf} {x : Dev} {m : List (List Ent)} {k : Nat} (h : MInv c x m k) (hc : Qn c = 0) (next seq : Int) {slot : Int} (h0 : 0 ≤ slot) (h1 : slot ≤ 1) : MInv c (Qe2 c x m next seq slot) m k := by
 have hk := QrM (next := next) (seq := seq) hc h.ok (fun e he => (h.ent.all e he).1) h0 h1
 exact ⟨hk.ok, by rw [hk.n]; exact h.n, hk.size.trans h.size, fun z hz s hs => h.sec z hz s (by rw [← hk.sec z hz]; exact hs), h.ml, h.ent, h.len⟩
theorem MInv.inst {c : Conf} {x : Dev} {m : List (List Ent)} {k : Nat} (h : MInv c x m k) {e : Ent} (he : e.block < c.blocks ∧ 2 * Qi c ≤ e.zone) : MInv c x (Qaz m e).1 (k + 1) :=
 ⟨h.ok, h.n, h.size, h.sec, by rw [QkD]; exact h.ml, h.ent.inst he, QmM h.len⟩
theorem MInv.rel {c : Conf} {x : Dev} {m : List (List Ent)} {k : Nat} (h : MInv c x m k) {b v fz fo tz t2 move : Int} (hz : 2 * Qi c ≤ tz) : MInv c x (relM m b v fz fo tz t2 move).1 (k + 1) :=
 ⟨h.ok, h.n, h.size, h.sec, by rw [Qtx]; exact h.ml, h.ent.rel fun e he => ⟨he.1, hz⟩, fun i => Nat.le_succ_of_le (Qvl h.len _ _ _ _ _ _ _ i)⟩
theorem MInv.copy {c : Conf} {x : Dev} {m : List (List Ent)} {k : Nat} (h : MInv c x m k) (hb : 0 < c.blocks) {z o : Int} (hz : 2 * Qi c ≤ z) (hs : 0 ≤ Qi c) : (QgE (decR (QcU x z o))).1.block < c.blocks := by
 unfold QgE
 split
 ·show (decR (QcU x z o)).block < c.blocks
  show Qgg c.blocks (QcU x z o)
  unfold QcU
  split
  ·rename_i q
   have hin : 0 ≤ o ∧ o < (x.zones.getD z.toNat default).sectors.length := by
    unfold QgD at q
    split at q
    ·split at q
     ·rename_i w; simpa using w
     ·cases q
    ·rename_i w; exact absurd q w
   refine h.sec z.toNat (by omega) _ ?_
   have key : ∀ (l : List ByteArray) (i : Nat), i < l.length → l.getD i ByteArray.empty ∈ l := fun l i hi => by
    rw [show l.getD i ByteArray.empty = l[i] by simp [List.getD, hi]]
    exact List.getElem_mem hi
   exact key _ _ (by omega)
  ·exact Qor hb
 ·exact hb
structure Good (c : Conf) (x : Dev) : Prop where
 conf : Qn c = 0
 ok : x.ok
 n : (x.zones.length : Int) = c.zones
 size : x.size = c.size
theorem Qlk {c : Conf} (hc : Qn c = 0) : newE c.zones c.size 3 3 = 0 ∧ MInv c (newX c.zones c.size 3 3) [[]] 0 := by
 have hr := Qay hc
 have hcf := confR_iff.1 hr.1
 have hsr := Qav hr.1
 have hd := hr.2.1
 unfold Qan at hd
 have hok := Qvv (zones := c.zones) (size := c.size) (op := 3) (act := 3) (by omega) (by omega) (by omega) (by omega) (by decide) (by decide) (by omega)
 refine ⟨?_, hok, ?_, rfl, fun z _ s hs => ?_, rfl, fun l hl e he => ?_, fun i => ?_⟩
 ·unfold newE
  rw [decide_eq_true (by omega), if_pos rfl]
  exact check_ok.2 hok
 ·show ((List.replicate c.zones.toNat zone0).length : Int) = c.zones
  rw [List.length_replicate]; omega
 ·have : ((newX c.zones c.size 3 3).zones.getD z default).sectors = [] := by
   show ((List.replicate c.zones.toNat zone0).getD z default).sectors = []
   by_cases q : z < c.zones.toNat
   ·rw [show (List.replicate c.zones.toNat zone0).getD z default = zone0 by simp [List.getD, q]]; rfl
   ·rw [show (List.replicate c.zones.toNat zone0).getD z default = default by simp only [List.getD]; rw [List.getElem?_eq_none (by rw [List.length_replicate]; omega)]; rfl]; rfl
  rw [this] at hs; cases hs
 ·rw [List.mem_singleton.1 hl] at he; cases he
 ·match i with
  | 0 => exact Nat.le_refl _
  | i + 1 => exact Nat.le_refl _
theorem Qro (d : DiceM) {b v : Int} (h1 : 1 ≤ b) (h2 : b ≤ 1000) : (recR d b v).block < b := by
 have := d.next_range h1 (by omega)
 unfold recR
 split <;> exact this.2
def awC : Conf := Qcc ⟨[0, 3], 0⟩
def awA : Rec := ⟨2, 1, 4, 0, ByteArray.empty⟩
def awB : Rec := ⟨1, 1, 3, 0, QfK 2⟩
def aw0 : Dev := newX awC.zones awC.size 3 3
def aw1 : Dev := Qy aw0 (awC.zones - 1) (encR awA)
def aw2 : Dev := Qy aw1 (awC.zones - 1) (encR awB)
theorem QqE : QH awC aw2 = 0 := by decide +kernel
theorem QvF : (QaP awC aw2).version = 4 ∧ (QaP awC aw2).slot = -1 ∧ (allS (QaP awC aw2).map).length = 1 ∧ ((allS (QaP awC aw2).map).getD 0 default).kind = 2 ∧ ((allS (QaP awC aw2).map).getD 0 default).version = 4 ∧ awC.zones ≤ 32 ∧ 1 ≤ awC.zones := by decide +kernel
theorem Qvu : newE awC.zones awC.size 3 3 = 0 ∧ aw0.ok ∧ aw1.ok ∧ aw2.ok := by
 obtain ⟨h1, h2⟩ := Qlk (c := awC) (QmQ ⟨[0, 3], 0⟩)
 exact ⟨h1, h2.ok, Qde h2.ok _ _, Qde (Qde h2.ok _ _) _ _⟩
theorem Qvc (c : Conf) (d : Dev) : (QaP c d).map.length = c.shards.toNat ∧ ∀ i, ((QaP c d).map.getD i default).length ≤ c.blocks.toNat := by
 refine ⟨?_, fun i => ?_⟩
 ·show (QaZ _ _).length = _
  rw [Qe3]
  exact List.length_replicate
 ·have h1 := Qgb (Qf0 c.shards) (winL c d) i
  have h2 := Qe9 (QbH c d) (QaW c d) c.blocks.toNat
  have h3 : (winL c d).length ≤ c.blocks.toNat := h2
  show ((QaZ _ _).getD i default).length ≤ _
  omega
theorem Qik (c : Conf) (d : Dev) : (QbQ c d).map.length ≤ 1000000 ∧ ∀ i, ((QbQ c d).map.getD i default).length ≤ 1000000 := by
 unfold QbQ
 split
 ·rename_i h
  obtain ⟨h1, h2⟩ := Qvc c d
  have hc : Qn c = 0 := by
   unfold QH at h
   split at h
   ·rename_i q; exact q
   ·rename_i q; exact absurd h q
  have := confR_iff.1 (Qay hc).1
  exact ⟨by omega, fun i => by have := h2 i; omega⟩
 ·exact ⟨by decide, fun i => by
   show (([] : List (List Ent)).getD i default).length ≤ _
   exact Nat.zero_le _⟩
set_option maxHeartbeats 4000000 in
theorem Qje : PS 8 [] (.c (.bool true)) := by
 obtain ⟨hN, k0, k1, k2⟩ := Qvu
 obtain ⟨v1, v2, v3, v4, v5, v6, v7⟩ := QvF
 have hnew := Qmm awC.zones awC.size 3 3 (by omega)
 rw [hN, show newD awC.zones awC.size 3 3 = aw0 from if_pos hN] at hnew
 have hB := Qf4 awC aw2 k2.tiny
 rw [QqE, show QbQ awC aw2 = QaP awC aw2 from if_pos QqE] at hB
 have ok0 : DiceM.ok ⟨[0, 3], 0⟩ := ⟨Nat.zero_le _, by decide⟩
 obtain ⟨m1, m2⟩ := Qik awC aw2
 rw [show QbQ awC aw2 = QaP awC aw2 from if_pos QqE] at m1 m2
 refine PSpec.rm ?_
 refine ov0 hΓ Tryz.func8 89 0 [.tmp 0] Tryz.ntmps8 Tryz.results8 ?_
 have hl : ∀ i, i < 2 → ∀ j, j < 1 → Q4 1 [.int .i64 0, .int .i64 3] i j = QcT .i64 [0, 3] i j := fun i hi j hj => QtN (l := [0, 3]) rfl hi hj
 refine CallN.fzK 0 [] [(0, .c (.bool false))] [] [.c (QbY [0, 3])] rfl (Nat.zero_le _) (fun i hi j hj => (congrArg C.imm (hl i hi j hj)).trans rfl) wb0 wb0 ?_ leN ?_
 ·refine wb1 ?_
  exact WC.fz rfl rfl (fun i hi j hj => leF.of_eq (hl i hi j hj)) (fun e => by cases e)
 refine CallN.autoQ [] QkR (QkC [0, 3] (by decide)) (Go0 ?_)
 refine CallN.autoQ [0] Qjh (Qjy ⟨[0, 3], 0⟩ ok0) (Go0 ?_)
 rw [show Qcc ⟨[0, 3], 0⟩ = awC from rfl]
 have hA1 : PS 29 [aw0.s, .c (.int .i64 (awC.zones - 1)), .c (.str (encR awA))] (Dev.out3 aw1 (Qa7 aw0 (awC.zones - 1) (encR awA)) (QV aw0 (awC.zones - 1) (encR awA))) := Qcm aw0 k0.tiny.small (awC.zones - 1) (encR awA)
 have hA2 : PS 29 [aw1.s, .c (.int .i64 (awC.zones - 1)), .c (.str (encR awB))] (Dev.out3 aw2 (Qa7 aw1 (awC.zones - 1) (encR awB)) (QV aw1 (awC.zones - 1) (encR awB))) := Qcm aw1 k1.tiny.small (awC.zones - 1) (encR awB)
 have hS1 := Qci awA
 have hS2 := Qci awB
 have w1 : IntKind.i64.wrap (awC.zones - 1) = awC.zones - 1 := Qa _ (by omega) (by omega)
 generalize Qa7 aw0 (awC.zones - 1) (encR awA) = i1 at *
 generalize QV aw0 (awC.zones - 1) (encR awA) = e1 at *
 generalize Qa7 aw1 (awC.zones - 1) (encR awB) = i2 at *
 generalize QV aw1 (awC.zones - 1) (encR awB) = e2 at *
 generalize encR awA = s1 at *
 generalize encR awB = s2 at *
 generalize hX : QaP awC aw2 = X at *
 generalize awC = c at *
 generalize aw0 = x0 at *
 generalize aw1 = x1 at *
 generalize aw2 = x2 at *
 refine CallN.pureA Ql5 hnew (Go0 ?_)
 refine CallN.pureA Qgf (Qgp 2 ) (Go0 ?_)
 refine Dr.mkE hΓ hMix [] [(9, 11), (10, 11)] (by kernel_rfl) (Go0 ?_)
 refine CallP.auto Qch hS1 (Go0 ?_)
 rw [w1]
 refine CallP.auto Qco hA1 (Go0 ?_)
 refine Dr.mkE hΓ hMix [] [(9, 11), (10, 11)] (by kernel_rfl) (Go0 ?_)
 refine CallP.auto Qch hS2 (Go0 ?_)
 rw [w1]
 refine CallP.auto Qco hA2 (Go0 ?_)
 refine CallN.pureA Qgz hB (Go0 ?_)
 refine CallN.pureA Qkj (QkL X.map m2 m1 ) (Go0 ?_)
 rw [show (Int.toNat 0) = 0 from rfl, v1, v2, v3, v4, v5]
 exact RM.i0
theorem Qjw : HB 8 := hB Tryz.func8
theorem Qt7 (c : Conf) (d : Dev) (b : Bas) : ∀ k : Nat, (∀ e ∈ Qal b (QaW c d) k, QbE e = true ∧ e.block < k) ∧ (Qal b (QaW c d) k).Pairwise (fun a b => a.block < b.block)
 | 0 => ⟨fun e he => (by cases he), List.Pairwise.nil⟩
 | k + 1 => by
  obtain ⟨h1, h2⟩ := Qt7 c d b k
  have hw : ∀ e ∈ QaI b (QaW c d) k, QbE e = true ∧ e.block = k := fun e he => by
   unfold QaI at he
   split at he
   ·cases he
   ·rename_i f hf
    split at he
    ·rw [List.mem_singleton] at he
     subst he
     obtain ⟨m1, m2, -⟩ := Qiz hf
     obtain ⟨a1, a2, a3, a4, a5, -⟩ := Qgx m1
     obtain ⟨r1, r2, r3, r4, r5, r6⟩ := Qlj m1
     exact ⟨by unfold QbE; exact decide_eq_true ⟨r1, a3, r4, r5, r6, by show (0 : Int) ≤ (k : Nat); omega, a4, a5⟩, rfl⟩
    ·cases he
  have hlen : (QaI b (QaW c d) k).length ≤ 1 := by
   unfold QaI
   split
   ·exact Nat.zero_le _
   ·split
    ·exact Nat.le_refl _
    ·exact Nat.zero_le _
  rw [Qal]
  refine ⟨fun e he => ?_, ?_⟩
  ·rcases List.mem_append.1 he with q | q
   ·exact ⟨(h1 e q).1, by have := (h1 e q).2; omega⟩
   ·exact ⟨(hw e q).1, by have := (hw e q).2; omega⟩
  ·rw [List.pairwise_append]
   refine ⟨h2, ?_, fun x hx y hy => by have := (h1 x hx).2; have := (hw y hy).2; omega⟩
   generalize QaI b (QaW c d) k = t at *
   rcases t with _ | ⟨a, _ | ⟨a', t⟩⟩
   ·exact List.Pairwise.nil
   ·exact List.pairwise_singleton _ _
   ·simp at hlen
end Go.Proofs
end

section
open Go Go.Am
namespace Go.Proofs
set_option maxRecDepth 20000
section
variable {c : Conf} {d : Dev} {n : Int}
def shC (c : Conf) (n : Int) : Conf := { c with shards := n }
theorem Qu5 (hc : Qn c = 0) (h1 : 1 ≤ n) (h8 : n ≤ 8) : Qn (shC c n) = 0 := by
 have hr := Qay hc
 have hcf := confR_iff.1 hr.1
 have ho : Qbr (shC c n) = true := confR_iff.2 (by
  show 3 ≤ c.size ∧ c.size ≤ 64 ∧ 1 ≤ c.zones ∧ c.zones ≤ 32 ∧ 1 ≤ c.blocks ∧ c.blocks ≤ 128 ∧ 1 ≤ c.queues ∧ c.queues ≤ 4 ∧ 1 ≤ c.depth ∧ c.depth ≤ 8 ∧ 1 ≤ n ∧ n ≤ 8
  omega)
 unfold Qn
 rw [if_pos ho]
 exact if_neg (show ¬ (Qan c < 6 ∨ capN c < 1) by omega)
theorem Qvh (hc : Qn c = 0) (h1 : 1 ≤ n) (h8 : n ≤ 8) (z : Int) : QaS (shC c n) z = QaS c z := by
 unfold QaS
 first
 | rfl
 | (rw [hc, Qu5 hc h1 h8]; rfl)
theorem QtQ (hc : Qn c = 0) (h1 : 1 ≤ n) (h8 : n ≤ 8) : ∀ k, Qag (shC c n) d k = Qag c d k
 | 0 => rfl
 | k + 1 => by rw [Qag, Qag, Qvh hc h1 h8, QtQ hc h1 h8 k]
end
end Go.Proofs
end

section
open Go Go.Am
namespace Go.Proofs
set_option maxRecDepth 20000
def Dev.ow (d : Dev) (id : Nat) : List C := [.int .i64 d.size, .int .i64 d.maxOpen, .int .i64 d.maxActive, .sl id 3 d.zones.length d.zones.length false]
def zO (d : Dev) : O := .arr 46 3 d.zones.length (Qx d.zones)
theorem QjK (d : Dev) (hd : d.zones.length ≤ 10000000) (zone : Int) (hz : 0 ≤ zone ∧ zone < d.zones.length) (z : Zone) : CS 66 [d.s, .c (.int .i64 zone), z.s] [] fun s H => s = .a (Dev.ow { d with zones := d.zones.set zone.toNat z } 0) ∧ H = [zO { d with zones := d.zones.set zone.toNat z }] := by
 refine CSpec.rm ?_
 refine ov0 hΓ Tryz.func66 18 0 [.cell 6 29] Tryz.ntmps66 Tryz.results66 ?_
 have hk : zone.toNat < d.zones.length := by omega
 rw [Nat.zero_add]
 refine ⟨.a [.int .i64 d.size, .int .i64 d.maxOpen, .int .i64 d.maxActive, .sl 0 3 d.zones.length d.zones.length false], [.arr 46 3 d.zones.length (Qx (d.zones.set zone.toNat z))], ?_, by unfold Dev.ow; rw [List.length_set], by unfold zO; rw [List.length_set]⟩
 refine RM.rg 3 (g' := Qx (d.zones.set zone.toNat z)) rfl (fun i _ j hj => QhA hk rfl i j hj) rfl ?_
 exact RM.renW [3] (by decide) wb0 wb0
theorem QiR : HB 66 := hB Tryz.func66
theorem Qhx (d : Dev) (hd : d.small) (zone : Int) (h1 : QS d zone = 0) : CS 79 [d.s, .c (.int .i64 zone)] [] fun s H => s = .t [.inr (Dev.ow (Qaq d zone) 0), .inl (.int .i64 0)] ∧ H = [zO (Qaq d zone)] := by
 obtain ⟨hok, hz0, hz1⟩ := Qac h1
 have hz := hd.z
 have hk : zone.toNat < d.zones.length := by omega
 have e : QbI (d.zones.getD zone.toNat default) = ⟨4, (d.zones.getD zone.toNat default).sectors.length, (d.zones.getD zone.toNat default).sectors⟩ := by
  simp only [QbI]
  split
  ·rename_i h4
   have hm : d.zones.getD zone.toNat default ∈ d.zones := by
    rw [QdG _ _ hk]; exact List.getElem_mem hk
   have := Qrr (hok.zones _ hm) h4
   generalize d.zones.getD zone.toNat default = z at *
   cases z
   simp_all
  ·rfl
 have eD : Qaq d zone = { d with zones := d.zones.set zone.toNat ⟨4, (d.zones.getD zone.toNat default).sectors.length, (d.zones.getD zone.toNat default).sectors⟩ } := by
  rw [← e]; exact if_pos h1
 rw [eD]
 refine CSpec.rm ?_
 refine ov0 hΓ Tryz.func79 29 0 [.cell 4 29, .tmp 5] Tryz.ntmps79 Tryz.results79 ?_
 refine CallN.pureA Qdw (QdE d zone ) (Go0 ?_)
 refine Br.no (by rw [h1]; rfl) (Go1 fun _h=>?_)
 refine CallN.autoI [] QiR (QjK d hz zone ⟨hz0, hz1⟩ ⟨4, (d.zones.getD zone.toNat default).sectors.length, (d.zones.getD zone.toNat default).sectors⟩) plh (Go0 ?_)
 generalize ({ d with zones := d.zones.set zone.toNat ⟨4, (d.zones.getD zone.toNat default).sectors.length, (d.zones.getD zone.toNat default).sectors⟩ } : Dev) = D at *
 refine ⟨.t [.inr (Dev.ow D 0), .inl (.int .i64 0)], [zO D], ?_, rfl, rfl⟩
 exact RM.renW [3] (by decide) wb0 wb0
theorem Qg7 : HB 79 := hB Tryz.func79
theorem QsB (zones size open_ act : Int) (h0 : newE zones size open_ act = 0) : CS 28 [.c (.int .i64 zones), .c (.int .i64 size), .c (.int .i64 open_), .c (.int .i64 act)] [] fun s H => s = .t [.inr (Dev.ow (newX zones size open_ act) 0), .inl (.int .i64 0)] ∧ H = [zO (newX zones size open_ act)] := by
 have hr : 1 ≤ zones ∧ zones ≤ 32 ∧ check (newX zones size open_ act) = 0 := by
  unfold newE at h0
  split at h0
  ·rename_i q; have := of_decide_eq_true q; exact ⟨this.1, this.2, h0⟩
  ·cases h0
 obtain ⟨z1, z2, hc⟩ := hr
 have hlen : zones.toNat = (newX zones size open_ act).zones.length := by show _ = (List.replicate zones.toNat zone0).length; simp
 have hcells : ∀ i, i < zones.toNat → ∀ j, j < 3 → leF (QcK [.int .i64 0, .int .i64 0, .nils] i j) (Qx (newX zones size open_ act).zones i j) := fun i hi j hj => Qfs _ rfl zones.toNat i j hi hj
 refine CSpec.rm ?_
 refine ov0 hΓ Tryz.func28 32 0 [.cell 8 29, .tmp 9] Tryz.ntmps28 Tryz.results28 ?_
 refine Br.no (by rw [decide_eq_false (by omega), decide_eq_false (by omega)]; rfl) (Go0 ?_)
 rw [hlen]
 refine CallN.reads Qbx (Qby (newX zones size open_ act)) (BwA.cons (BwS.a (BwL.cons (Bw.same rfl) (BwL.cons (Bw.same rfl) (BwL.cons (Bw.same rfl) (BwL.cons (Bw.sl rfl rfl (fun i hi j hj => Bw.leF (Qg1 _ rfl _ i (hlen ▸ hi) j hj) (hcells i (hlen ▸ hi) j hj)) (fun e => by cases e)) BwL.nil))))) BwA.nil) rfl (Go0 ?_)
 refine Br.no (by rw [hc]; rfl) (Go0 ?_)
 refine ⟨.t [.inr (Dev.ow (newX zones size open_ act) 0), .inl (.int .i64 0)], [zO (newX zones size open_ act)], ?_, rfl, rfl⟩
 refine RM.renW [1] (by decide) ?_ ?_
 ·refine wb1 ?_
  exact fun i hi j hj => WC.leF (Qg1 _ rfl _ i (hlen ▸ hi) j hj) (hcells i (hlen ▸ hi) j hj)
 ·refine wb1 ?_
  show WC _ _ (.sl 1 3 (newX zones size open_ act).zones.length (newX zones size open_ act).zones.length true) _
  exact ⟨rfl, rfl, rfl, rfl, Nat.lt_succ_self 0, fun e => by cases e⟩
theorem Qsh : HB 28 := hB Tryz.func28
theorem Qtd {secs : List ByteArray} {s : ByteArray} {g0 : Nat → Nat → C} {t : List C} {i j : Nat} (hi : i < 0 + secs.length + 1) (hj : j < 1) : appG (appG g0 0 fun i _ => .str (secs.getD i ByteArray.empty)) (0 + secs.length) (Q4 1 (.str s :: t)) i j = .str ((secs ++ [s]).getD i ByteArray.empty) := by
 obtain rfl : j = 0 := by omega
 rw [Nat.zero_add] at *
 exact QcG _ _ _ _ _ hi
set_option maxHeartbeats 4000000 in
theorem QmP (d : Dev) (hd : d.small) (zone : Int) (s : ByteArray) (h0 : QV d zone s = 0) : CS 29 [d.s, .c (.int .i64 zone), .c (.str s)] [] fun x H => x = .t [.inr (Dev.ow (Qy d zone s) 0), .inl (.int .i64 (Qa7 d zone s)), .inl (.int .i64 0)] ∧ H = [zO (Qy d zone s)] := by
 obtain ⟨hb, h40, h4, hro⟩ := Qex h0
 obtain ⟨hok, hz0, hz1⟩ := Qac hb
 have hc := check_ok.2 hok
 have h5 := QmC hb
 have hz := hd.z
 have hzs := hd.s zone.toNat
 have hk : zone.toNat < d.zones.length := by omega
 have hzz : zone = (zone.toNat : Int) := by omega
 have hDx : Qy d zone s = { d with zones := (openL d zone.toNat).set zone.toNat (grow ((openL d zone.toNat).getD zone.toNat default) d.size s) } := if_pos h0
 have hIx : Qa7 d zone s = ((openL d zone.toNat).getD zone.toNat default).sectors.length := by rw [Qd3]; exact if_pos h0
 have hxl := Qff d zone.toNat
 have hxs : ((openL d zone.toNat).getD zone.toNat default).sectors.length ≤ 10000000 := by rw [Qd3]; exact hzs
 rw [hDx, hIx]
 refine CSpec.rm ?_
 refine CSpec.of_aw hΓ Tryz.func29 111 0 [.cell 6 29, .tmp 7, .tmp 8] Tryz.ntmps29 ?_
 refine AWn.seq hΓ (Go0 ?_)
 refine AWn.seq hΓ (Go0 ?_)
 refine CallN.pureA Qbx (Qby d ) (Go0 ?_)
 refine AWn.seq hΓ (Go0 ?_)
 refine Br.no (by rw [hc]; rfl) (Go0 ?_)
 refine Br.no (by rw [decide_eq_false (by omega), decide_eq_false (by omega)]; rfl) (Go1 fun _h=>?_)
 refine Br.no (by rw [h40]; rfl) (Go0 ?_)
 refine Br.no (by exact beq_false_of_ne h5) (Go0 ?_)
 refine Br.no (by exact beq_false_of_ne h4) (Go0 ?_)
 refine AWn.seq hΓ (Go0 ?_)
 have hX : ∃ X : Dev, X = { d with zones := openL d zone.toNat } := ⟨_, rfl⟩
 obtain ⟨X, hX⟩ := hX
 refine AWn.join hΓ (ι := Unit) [1, 2, 3, 6, 7, 8, 10] (fun _ => []) (fun _ => [.vr d.cells, .vr [.int .i64 0, .int .i64 0, .int .i64 0, .nils], .vr X.cells]) (fun _ => True) ?_ ?_
 ·refine Go0 ?_
  refine CallN.pureA QaX (Qa0 (d.zones.getD zone.toNat default).state ) (Go0 ?_)
  cases ho : Qt (d.zones.getD zone.toNat default).state with
  | true =>
   refine Br.no rfl (Go0 ?_)
   refine ⟨(), trivial, ?_⟩
   rw [hX, show openL d zone.toNat = d.zones by unfold openL; rw [if_pos ho]]
   exact Mv.k0
  | false =>
   have hr0 : (Qj d zone.toNat).1 = 0 := by
    rcases hro with q | q
    ·rw [ho] at q; cases q
    ·exact q
   refine Br.yes rfl (Go0 ?_)
   refine CallN.pure QgI (QgK d hz zone.toNat hk ho) (leA.cons rfl (wkS.imm rfl) (leA.cons rfl (wkS.c (wkC.int hzz)) leA.nil)) rfl ?_
   rw [hr0, show QbK d zone.toNat = X by rw [hX]; unfold QbK openL; rw [if_pos hr0, if_neg (by rw [ho]; simp)]]
   refine Go0 ?_
   refine Br.no rfl (Go0 ?_)
   refine ⟨(), trivial, ?_⟩
   exact Mv.k0
 ·rintro ⟨⟩ _
  have hXl : X.zones.length = d.zones.length := by rw [hX]; exact hxl
  have hXs : X.size = d.size := by rw [hX]
  have hXz : openL d zone.toNat = X.zones := by rw [hX]
  rw [hXz]
  have hXD : ({ d with zones := X.zones.set zone.toNat (grow (X.zones.getD zone.toNat default) d.size s) } : Dev) = { X with zones := X.zones.set zone.toNat (grow (X.zones.getD zone.toNat default) d.size s) } := by rw [hX]
  rw [hXD]
  rw [hXz] at hxs
  refine AWn.seq hΓ (Go0 ?_)
  generalize hZ : X.zones.getD zone.toNat default = Z at *
  refine AWn.join hΓ (ι := Unit) [1, 2, 3, 6, 7, 8, 10, 13] (fun _ => []) (fun _ => [.vr d.cells, .vr [.int .i64 0, .int .i64 0, .int .i64 0, .nils], .vr X.cells, .vr [.int .i64 (if Qt Z.state then Z.state else 1), .int .i64 Z.durable, Qbq Z.sectors]]) (fun _ => True) ?_ ?_
  ·refine Go0 ?_
   refine CallN.pureA QaX (Qa0 Z.state ) (Go0 ?_)
   cases ho : Qt Z.state with
   | true =>
    refine Br.no rfl (Go0 ?_)
    refine ⟨(), trivial, ?_⟩
    rw [if_pos rfl]
    exact Mv.k0
   | false =>
    refine Br.yes rfl (Go0 ?_)
    refine ⟨(), trivial, ?_⟩
    rw [if_neg Bool.false_ne_true]
    exact Mv.k0
  rintro ⟨⟩ _
  have hgr : ∀ n : Int, n = (Z.sectors.length : Int) + 1 → grow Z d.size s = if n = d.size then ⟨4, d.size, Z.sectors ++ [s]⟩ else ⟨if Qt Z.state then Z.state else 1, Z.durable, Z.sectors ++ [s]⟩ := fun n hn => by subst hn; rfl
  generalize (if Qt Z.state then Z.state else 1 : Int) = st at *
  refine AWn.join hΓ (ι := Unit) [1, 2, 3, 6, 7, 8, 10, 13] (fun _ => []) (fun _ => [.vr d.cells, .vr [.int .i64 0, .int .i64 0, .int .i64 0, .nils], .vr X.cells, .vr [.int .i64 st, .int .i64 Z.durable, Qbq (Z.sectors ++ [s])]]) (fun _ => True) ?_ ?_
  ·refine Go0 ?_
   refine ⟨(), trivial, ?_⟩
   refine (Mv.fz 4 rfl (Nat.zero_le _) ?_).trans ?_
   ·exact fun i hi j hj => (congrArg C.imm (Qtd hi hj)).trans rfl
   ·refine Mv.k1 ?_
    exact WC.fz rfl (by simp) (fun i hi j hj => leF.of_eq (Qtd hi hj)) (fun e => by cases e)
  rintro ⟨⟩ _
  have hsl : (Z.sectors ++ [s]).length = Z.sectors.length + 1 := by simp
  refine AWn.join hΓ (ι := Unit) [1, 2, 3, 6, 7, 8, 10, 13] (fun _ => []) (fun _ => [.vr d.cells, .vr [.int .i64 0, .int .i64 0, .int .i64 0, .nils], .vr X.cells, .vr [.int .i64 (grow Z d.size s).state, .int .i64 (grow Z d.size s).durable, Qbq (grow Z d.size s).sectors]]) (fun _ => True) ?_ ?_
  ·refine Go1 fun _h=>?_
   by_cases hf : (Z.sectors.length : Int) + 1 = d.size
   ·refine Br.yes (by rw [hsl]; simpa using hf) ?_
    conv=>whnf
    refine Dr.mkE hΓ hMix [] [(0, 3), (1, 3)] (by kernel_rfl) (Go0 ?_)
    refine ⟨(), trivial, ?_⟩
    rw [hgr _ rfl, if_pos hf]
    exact Mv.k0
   ·refine Br.no (by rw [hsl]; simpa using hf) (Go0 ?_)
    refine ⟨(), trivial, ?_⟩
    rw [hgr _ rfl, if_neg hf]
    exact Mv.k0
  rintro ⟨⟩ _
  have hgs : (grow Z d.size s).sectors.length = Z.sectors.length + 1 := by rw [hgr _ rfl]; split <;> exact hsl
  generalize grow Z d.size s = G at *
  refine AWn.ofVc hΓ ?_
  conv=>whnf
  refine Dr.mkE hΓ hMix [66] [(4, 3), (5, 3), (6, 3), (7, 3), (4, 8), (5, 8), (6, 8), (7, 8)] (by kernel_rfl) (Go0 ?_)
  refine CallE.autoQ [] QiR (QjK X (by omega) zone ⟨hz0, by omega⟩ G) (Go0 ?_)
  have hw : IntKind.i64.wrap ((G.sectors.length : Int) - 1) = Z.sectors.length := by rw [hgs, Qa _ (by omega) (by omega)]; omega
  rw [hw]
  generalize ({ X with zones := X.zones.set zone.toNat G } : Dev) = D at *
  refine ⟨.t [.inr (Dev.ow D 0), .inl (.int .i64 Z.sectors.length), .inl (.int .i64 0)], [zO D], ?_, rfl, rfl⟩
  refine RM.renW [4] (by decide) ?_ ?_
  ·refine wb1 ?_
   exact fun i _ j _ => WC.reI (QA _ _ _)
  ·exact wb0
theorem QmX : HB 29 := hB Tryz.func29
end Go.Proofs
end
