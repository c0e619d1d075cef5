/- Contracts, lemmas; no condition. -/
import Derived.Test.YtmollgldghpbkaaGreatAmFV
import Derived.Test.YtmollgldghpbkaaGreatModBV
set_option linter.all false
section
open Go Go.Am
namespace Go.Proofs
set_option maxRecDepth 20000
theorem QkD (n : Nat) (g : Nat → Nat → C) (t : Bool) (hn : n ≤ 10000000) (him : ∀ i, i < n → ∀ j, j < 1 → (g i j).imm = true) : CS 123 [.c (.isl 1 n g t)] [] fun s H => s = .c (.sl 0 1 n n false) ∧ H = [.arr 3 1 n g] := by
 refine CSpec.rm ?_
 refine ov0 hΓ Tryz.func123 8 0 [.tmp 2] Tryz.ntmps123 Tryz.results123 ?_
 intro b hb
 refine Go0 ?_
 refine Br.of (fun h=>Go0 ?_) (fun h=>Go0 ?_)
 ·have : n = 0 := by
   rcases Nat.eq_zero_or_pos n with c | c
   ·exact c
   ·exact absurd h (by rw [hb c]; simp)
  subst this
  exact ⟨_, _, RM.nilO 3 1 g, rfl, rfl⟩
 ·refine ⟨_, _, ?_, rfl, rfl⟩
  refine RM.w1 ?_
  intro i hi j hj
  exact WC.eq (by simp [appG]) (him i om j hj)
theorem Qcj : HB 123 := hB Tryz.func123
theorem Qkr (n : Nat) (g : Nat → Nat → C) (t : Bool) (hn : n ≤ 10000000) (him : ∀ i, i < n → ∀ j, j < 1 → (g i j).imm = true) : CS 188 [.c (.isl 1 n g t)] [] fun s H => s = .c (.sl 0 1 n n false) ∧ H = [.arr 9 1 n g] := by
 refine CSpec.rm ?_
 refine ov0 hΓ Tryz.func188 8 0 [.tmp 2] Tryz.ntmps188 Tryz.results188 ?_
 intro b hb
 refine Go0 ?_
 refine Br.of (fun h=>Go0 ?_) (fun h=>Go0 ?_)
 ·have : n = 0 := by
   rcases Nat.eq_zero_or_pos n with c | c
   ·exact c
   ·exact absurd h (by rw [hb c]; simp)
  subst this
  exact ⟨_, _, RM.nilO 9 1 g, rfl, rfl⟩
 ·refine ⟨_, _, ?_, rfl, rfl⟩
  refine RM.w1 ?_
  intro i hi j hj
  exact WC.eq (by simp [appG]) (him i om j hj)
theorem QlL : HB 188 := hB Tryz.func188
theorem Qjj (n : Nat) (g : Nat → Nat → C) (t : Bool) (hn : n ≤ 10000000) (him : ∀ i, i < n → ∀ j, j < 3 → (g i j).imm = true) : CS 187 [.c (.isl 3 n g t)] [] fun s H => s = .c (.sl 0 3 n n false) ∧ H = [.arr 117 3 n g] := by
 refine CSpec.rm ?_
 refine ov0 hΓ Tryz.func187 8 0 [.tmp 2] Tryz.ntmps187 Tryz.results187 ?_
 intro b hb
 refine Go0 ?_
 refine Br.of (fun h=>Go0 ?_) (fun h=>Go0 ?_)
 ·have : n = 0 := by
   rcases Nat.eq_zero_or_pos n with c | c
   ·exact c
   ·exact absurd h (by rw [hb c]; simp)
  subst this
  exact ⟨_, _, RM.nilO 117 3 g, rfl, rfl⟩
 ·refine ⟨_, _, ?_, rfl, rfl⟩
  refine RM.w1 ?_
  intro i hi j hj
  exact WC.eq (by simp [appG]) (him i om j hj)
theorem QiU : HB 187 := hB Tryz.func187
theorem QlO (n : Nat) (g : Nat → Nat → C) (t : Bool) (hn : n ≤ 10000000) (him : ∀ i, i < n → ∀ j, j < 1 → (g i j).imm = true) : CS 121 [.c (.isl 1 n g t)] [] fun s H => s = .c (.sl 0 1 n n false) ∧ H = [.arr 50 1 n g] := by
 refine CSpec.rm ?_
 refine ov0 hΓ Tryz.func121 8 0 [.tmp 2] Tryz.ntmps121 Tryz.results121 ?_
 intro b hb
 refine Go0 ?_
 refine Br.of (fun h=>Go0 ?_) (fun h=>Go0 ?_)
 ·have : n = 0 := by
   rcases Nat.eq_zero_or_pos n with c | c
   ·exact c
   ·exact absurd h (by rw [hb c]; simp)
  subst this
  exact ⟨_, _, RM.nilO 50 1 g, rfl, rfl⟩
 ·refine ⟨_, _, ?_, rfl, rfl⟩
  refine RM.w1 ?_
  intro i hi j hj
  exact WC.eq (by simp [appG]) (him i om j hj)
theorem QlP : HB 121 := hB Tryz.func121
theorem Qkl (n : Nat) (g : Nat → Nat → C) (t : Bool) (hn : n ≤ 10000000) (him : ∀ i, i < n → ∀ j, j < 6 → (g i j).imm = true) : CS 122 [.c (.isl 6 n g t)] [] fun s H => s = .c (.sl 0 6 n n false) ∧ H = [.arr 47 6 n g] := by
 refine CSpec.rm ?_
 refine ov0 hΓ Tryz.func122 8 0 [.tmp 2] Tryz.ntmps122 Tryz.results122 ?_
 intro b hb
 refine Go0 ?_
 refine Br.of (fun h=>Go0 ?_) (fun h=>Go0 ?_)
 ·have : n = 0 := by
   rcases Nat.eq_zero_or_pos n with c | c
   ·exact c
   ·exact absurd h (by rw [hb c]; simp)
  subst this
  exact ⟨_, _, RM.nilO 47 6 g, rfl, rfl⟩
 ·refine ⟨_, _, ?_, rfl, rfl⟩
  refine RM.w1 ?_
  intro i hi j hj
  exact WC.eq (by simp [appG]) (him i om j hj)
theorem Qej : HB 122 := hB Tryz.func122
theorem Qkj (n : Nat) (g : Nat → Nat → C) (t : Bool) (hn : n ≤ 10000000) (him : ∀ i, i < n → ∀ j, j < 2 → (g i j).imm = true) : CS 124 [.c (.isl 2 n g t)] [] fun s H => s = .c (.sl 0 2 n n false) ∧ H = [.arr 203 2 n g] := by
 refine CSpec.rm ?_
 refine ov0 hΓ Tryz.func124 8 0 [.tmp 2] Tryz.ntmps124 Tryz.results124 ?_
 intro b hb
 refine Go0 ?_
 refine Br.of (fun h=>Go0 ?_) (fun h=>Go0 ?_)
 ·have : n = 0 := by
   rcases Nat.eq_zero_or_pos n with c | c
   ·exact c
   ·exact absurd h (by rw [hb c]; simp)
  subst this
  exact ⟨_, _, RM.nilO 203 2 g, rfl, rfl⟩
 ·refine ⟨_, _, ?_, rfl, rfl⟩
  refine RM.w1 ?_
  intro i hi j hj
  exact WC.eq (by simp [appG]) (him i om j hj)
theorem QlZ : HB 124 := hB Tryz.func124
theorem Qkm (n : Nat) (g : Nat → Nat → C) (t : Bool) (hn : n ≤ 10000000) (him : ∀ i, i < n → ∀ j, j < 2 → (g i j).imm = true) : CS 125 [.c (.isl 2 n g t)] [] fun s H => s = .c (.sl 0 2 n n false) ∧ H = [.arr 98 2 n g] := by
 refine CSpec.rm ?_
 refine ov0 hΓ Tryz.func125 8 0 [.tmp 2] Tryz.ntmps125 Tryz.results125 ?_
 intro b hb
 refine Go0 ?_
 refine Br.of (fun h=>Go0 ?_) (fun h=>Go0 ?_)
 ·have : n = 0 := by
   rcases Nat.eq_zero_or_pos n with c | c
   ·exact c
   ·exact absurd h (by rw [hb c]; simp)
  subst this
  exact ⟨_, _, RM.nilO 98 2 g, rfl, rfl⟩
 ·refine ⟨_, _, ?_, rfl, rfl⟩
  refine RM.w1 ?_
  intro i hi j hj
  exact WC.eq (by simp [appG]) (him i om j hj)
theorem QkH : HB 125 := hB Tryz.func125
theorem Qkf (n : Nat) (g : Nat → Nat → C) (t : Bool) (hn : n ≤ 10000000) (him : ∀ i, i < n → ∀ j, j < 4 → (g i j).imm = true) : CS 126 [.c (.isl 4 n g t)] [] fun s H => s = .c (.sl 0 4 n n false) ∧ H = [.arr 66 4 n g] := by
 refine CSpec.rm ?_
 refine ov0 hΓ Tryz.func126 8 0 [.tmp 2] Tryz.ntmps126 Tryz.results126 ?_
 intro b hb
 refine Go0 ?_
 refine Br.of (fun h=>Go0 ?_) (fun h=>Go0 ?_)
 ·have : n = 0 := by
   rcases Nat.eq_zero_or_pos n with c | c
   ·exact c
   ·exact absurd h (by rw [hb c]; simp)
  subst this
  exact ⟨_, _, RM.nilO 66 4 g, rfl, rfl⟩
 ·refine ⟨_, _, ?_, rfl, rfl⟩
  refine RM.w1 ?_
  intro i hi j hj
  exact WC.eq (by simp [appG]) (him i om j hj)
theorem QgU : HB 126 := hB Tryz.func126
theorem QkQ (n : Nat) (g : Nat → Nat → C) (t : Bool) (hn : n ≤ 10000000) (him : ∀ i, i < n → ∀ j, j < 12 → (g i j).imm = true) : CS 127 [.c (.isl 12 n g t)] [] fun s H => s = .c (.sl 0 12 n n false) ∧ H = [.arr 68 12 n g] := by
 refine CSpec.rm ?_
 refine ov0 hΓ Tryz.func127 8 0 [.tmp 2] Tryz.ntmps127 Tryz.results127 ?_
 intro b hb
 refine Go0 ?_
 refine Br.of (fun h=>Go0 ?_) (fun h=>Go0 ?_)
 ·have : n = 0 := by
   rcases Nat.eq_zero_or_pos n with c | c
   ·exact c
   ·exact absurd h (by rw [hb c]; simp)
  subst this
  exact ⟨_, _, RM.nilO 68 12 g, rfl, rfl⟩
 ·refine ⟨_, _, ?_, rfl, rfl⟩
  refine RM.w1 ?_
  intro i hi j hj
  exact WC.eq (by simp [appG]) (him i om j hj)
theorem QkA : HB 127 := hB Tryz.func127
theorem Qke (n : Nat) (g : Nat → Nat → C) (t : Bool) (hn : n ≤ 10000000) (him : ∀ i, i < n → ∀ j, j < 5 → (g i j).imm = true) : CS 128 [.c (.isl 5 n g t)] [] fun s H => s = .c (.sl 0 5 n n false) ∧ H = [.arr 178 5 n g] := by
 refine CSpec.rm ?_
 refine ov0 hΓ Tryz.func128 8 0 [.tmp 2] Tryz.ntmps128 Tryz.results128 ?_
 intro b hb
 refine Go0 ?_
 refine Br.of (fun h=>Go0 ?_) (fun h=>Go0 ?_)
 ·have : n = 0 := by
   rcases Nat.eq_zero_or_pos n with c | c
   ·exact c
   ·exact absurd h (by rw [hb c]; simp)
  subst this
  exact ⟨_, _, RM.nilO 178 5 g, rfl, rfl⟩
 ·refine ⟨_, _, ?_, rfl, rfl⟩
  refine RM.w1 ?_
  intro i hi j hj
  exact WC.eq (by simp [appG]) (him i om j hj)
theorem QlW : HB 128 := hB Tryz.func128
theorem Ql4 (n : Nat) (g : Nat → Nat → C) (t : Bool) (hn : n ≤ 10000000) (him : ∀ i, i < n → ∀ j, j < 8 → (g i j).imm = true) : CS 129 [.c (.isl 8 n g t)] [] fun s H => s = .c (.sl 0 8 n n false) ∧ H = [.arr 94 8 n g] := by
 refine CSpec.rm ?_
 refine ov0 hΓ Tryz.func129 8 0 [.tmp 2] Tryz.ntmps129 Tryz.results129 ?_
 intro b hb
 refine Go0 ?_
 refine Br.of (fun h=>Go0 ?_) (fun h=>Go0 ?_)
 ·have : n = 0 := by
   rcases Nat.eq_zero_or_pos n with c | c
   ·exact c
   ·exact absurd h (by rw [hb c]; simp)
  subst this
  exact ⟨_, _, RM.nilO 94 8 g, rfl, rfl⟩
 ·refine ⟨_, _, ?_, rfl, rfl⟩
  refine RM.w1 ?_
  intro i hi j hj
  exact WC.eq (by simp [appG]) (him i om j hj)
theorem Qmd : HB 129 := hB Tryz.func129
theorem Qcm (l : List Int) (hn : l.length ≤ 10000000) : PS 123 [.c (Qi l)] (.c (Qi l)) := PSpec.ofO (QkD _ _ _ hn fun _ _ _ _ => rfl) fun _ _ _ _ => rfl
theorem QlY (l : List ByteArray) (hn : l.length ≤ 10000000) : PS 188 [.c (QbW l)] (.c (QbW l)) := PSpec.ofO (Qkr _ _ _ hn fun _ _ _ _ => rfl) fun _ _ _ _ => rfl
theorem Qei (l : List Ent) (hn : l.length ≤ 10000000) : PS 122 [.c (Qaw l)] (.c (Qaw l)) := PSpec.ofO (Qkl _ _ _ hn fun _ _ _ _ => Qao _ _) fun _ _ _ _ => Qao _ _
theorem QlE (l : List Ret) (hn : l.length ≤ 10000000) : PS 124 [.c (retC l)] (.c (retC l)) := PSpec.ofO (Qkj _ _ _ hn fun _ _ _ _ => QfC _ _) fun _ _ _ _ => QfC _ _
theorem QgT (l : List Req) (hn : l.length ≤ 10000000) : PS 126 [.c (reqC l)] (.c (reqC l)) := PSpec.ofO (Qkf _ _ _ hn fun _ _ _ _ => Qct _ _) fun _ _ _ _ => Qct _ _
theorem QlN (l : List Rec) (hn : l.length ≤ 10000000) : PS 128 [.c (Qib l)] (.c (Qib l)) := PSpec.ofO (Qke _ _ _ hn fun _ _ _ _ => Qcr _ _) fun _ _ _ _ => Qcr _ _
theorem Qp0 {l : List Zone} {k : Nat} {x : List C} (hx : x = [QbW (l.getD k default).sectors]) (i j : Nat) (hj : j < 3) : updG (QaK l) k 2 x i j = QaK l i j := by
 subst hx
 rw [Qcb]
 split
 ·rename_i c
  obtain ⟨rfl, rfl⟩ := c
  rfl
 ·rfl
theorem Qot (d : Dev) (hd : d.small) : PS 120 [.a d.cells] (.a d.cells) := by
 refine PSpec.rm ?_
 refine ov hΓ Tryz.func120 28 0 [.cell 2 29] Tryz.ntmps120 Tryz.results120 ?_
 have hz := hd.z
 refine Go0 ?_
 refine CallN.autoQ [] QiU (Qjj d.zones.length (QaK d.zones) false hz (fun _ _ _ _ => QbI _ _ _)) (Go0 ?_)
 refine Lp.mkK hΓ (ι := Nat) [1, 2, 10] (fun i => [(11, .c (.int .i64 i))]) (fun _ => [.vr [.int .i64 d.size, .int .i64 d.maxOpen, .int .i64 d.maxActive, .sl 2 3 d.zones.length d.zones.length false], .vr [.int .i64 0, .int .i64 0, .int .i64 0, .nils], .arr 117 3 d.zones.length (QaK d.zones)]) (fun i => i ≤ d.zones.length) (fun i => d.zones.length - i) 0 (Nat.zero_le _) ?_ ?_
 ·refine Mv.k1 ?_
  exact fun i _ j _ => WC.reI (QbI _ _ _)
 ·intro k hk
  have hsk := hd.s k
  refine Go0 ?_
  refine Br.of (fun h=>Go0 ?_) (fun h=>Go0 ?_)
  ·refine Dr.mk hΓ hMix (by kernel_rfl) (Go0 ?_)
   refine Frc.mk (.c (QbW (d.zones.getD k default).sectors)) rfl (Go0 ?_)
   refine CallP.auto QlL (QlY _ hsk ) (Go0 ?_)
   have w0 := Qa (↑k + 1) om om
   refine ⟨k + 1, om, om, ?_⟩
   refine Mv.k1 ?_
   exact fun i _ j hj => WC.eq (Qp0 rfl i j hj) (QbI _ _ _)
  ·refine RM.fz 2 rfl (Nat.zero_le _) (fun _ _ _ _ => QbI _ _ _) ?_
   exact RM.w0
theorem QoY : HB 120 := hB Tryz.func120
theorem QsQ {l : List (List Ent)} {k : Nat} {x : List C} (hx : x = [Qaw (l.getD k default)]) (i j : Nat) (hj : j < 1) : updG (QcZ l) k 0 x i j = QcZ l i j := by
 subst hx
 rw [Qcb]
 split
 ·rename_i c
  obtain ⟨rfl, rfl⟩ := c
  rfl
 ·rfl
theorem QtR {l : List Rng} {k : Nat} {x : List C} (hx : x = [reqC (l.getD k default).items]) (i j : Nat) (hj : j < 2) : updG (rngG l) k 1 x i j = rngG l i j := by
 subst hx
 rw [Qcb]
 split
 ·rename_i c
  obtain ⟨rfl, rfl⟩ := c
  rfl
 ·rfl
def St.objs (s : St) : List O := [.arr 98 2 s.rings.length (rngG s.rings), .arr 68 12 s.works.length (wrkG s.works), .arr 94 8 s.evs.length (evG s.evs)]
def St.own (s : St) (a b c : Nat) : List C := s.cellsW (.sl a 2 s.rings.length s.rings.length false) (.sl b 12 s.works.length s.works.length false) (.sl c 8 s.evs.length s.evs.length false)
set_option maxHeartbeats 4000000 in
set_option maxRecDepth 20000 in
theorem Qrh (s : St) (hs : s.small) : CS 49 [.a s.cells] [] fun r H => r = .a (s.own 0 1 2) ∧ H = s.objs := by
 refine CSpec.rm ?_
 refine ov0 hΓ Tryz.func49 113 0 [.cell 2 58] Tryz.ntmps49 Tryz.results49 ?_
 refine CallN.pureA QoY (Qot s.dev hs.dev ) (Go0 ?_)
 refine CallN.autoQ [] QlP (QlO s.map.length (QcZ s.map) false (by have := hs.map; omega) (fun _ _ _ _ => rfl)) (Go0 ?_)
 refine Lp.mkK hΓ (ι := Nat) [1, 2, 18, 19] (fun i => [(20, .c (.int .i64 i))]) (fun _ => [.vr (s.cellsX (.sl 2 1 s.map.length s.map.length false) (rngC s.rings) (wrkC s.works) (evC s.evs)), .vr (default : St).cells, .arr 50 1 s.map.length (QcZ s.map)]) (fun i => i ≤ s.map.length) (fun i => s.map.length - i) 0 (Nat.zero_le _) ?_ ?_
 ·refine Mv.k1 ?_
  exact fun i _ j _ => WC.reI rfl
 ·intro k hk
  have hsk := hs.shard k
  refine Go0 ?_
  refine Br.of (fun h=>Go0 ?_) (fun h=>Go0 ?_)
  ·refine Frc.mk (.c (Qaw (s.map.getD k default))) rfl (Go0 ?_)
   refine Dr.mk hΓ hMix (by kernel_rfl) (Go0 ?_)
   refine CallP.auto Qej (Qei (s.map.getD k default) om ) (Go0 ?_)
   have w0 := Qa (↑k + 1) (by have := hs.map; omega) (by have := hs.map; omega)
   refine ⟨k + 1, om, om, ?_⟩
   refine Mv.k1 ?_
   exact fun i _ j hj => WC.eq (QsQ rfl i j hj) rfl
  ·refine Dr.mk hΓ hMix (by kernel_rfl) (Go0 ?_)
   refine CallP.auto Qcj (Qcm s.live (by have := hs.live; omega) ) (Go0 ?_)
   refine CallP.auto Qcj (Qcm s.pend (by have := hs.pend; omega) ) (Go0 ?_)
   refine CallN.pureA Qcj (Qcm s.owner (by have := hs.owner; omega) ) (Go0 ?_)
   refine Dr.mk hΓ hMix (by kernel_rfl) (Go0 ?_)
   refine CallP.auto Qcj (Qcm s.pins (by have := hs.pins; omega) ) (Go0 ?_)
   refine CallP.auto QlZ (QlE s.rets (by have := hs.rets; omega) ) (Go0 ?_)
   refine CallN.pureA Qcj (Qcm s.free (by have := hs.free; omega) ) (Go0 ?_)
   refine CallN.autoQ [] QkH (Qkm s.rings.length (rngG s.rings) false (by have := hs.rings; omega) (fun _ _ _ _ => QB _ _)) (Go0 ?_)
   refine Lp.mkK hΓ (ι := Nat) [1, 2, 73] (fun i => [(74, .c (.int .i64 i))]) (fun _ => [.vr (s.cellsX (.sl 2 1 s.map.length s.map.length false) (.sl 3 2 s.rings.length s.rings.length false) (wrkC s.works) (evC s.evs)), .vr (default : St).cells, .arr 50 1 s.map.length (QcZ s.map), .arr 98 2 s.rings.length (rngG s.rings)]) (fun i => i ≤ s.rings.length) (fun i => s.rings.length - i) 0 (Nat.zero_le _) ?_ ?_
   ·refine Mv.k2 ?_ ?_
    ·exact fun i _ j _ => WC.imm rfl
    ·exact fun i _ j _ => WC.reI (QB _ _)
   ·intro q hq
    have hsi := hs.items q
    refine Go0 ?_
    refine Br.of (fun h2=>Go0 ?_) (fun h2=>Go0 ?_)
    ·refine Dr.mk hΓ hMix (by kernel_rfl) (Go0 ?_)
     refine Frc.mk (.c (reqC (s.rings.getD q default).items)) rfl (Go0 ?_)
     refine CallP.auto QgU (QgT (s.rings.getD q default).items om ) (Go0 ?_)
     have w0 := Qa (↑q + 1) (by have := hs.rings; omega) (by have := hs.rings; omega)
     refine ⟨q + 1, om, om, ?_⟩
     refine Mv.k2 ?_ ?_
     ·exact fun i _ j _ => WC.imm rfl
     ·exact fun i _ j hj => WC.eq (QtR rfl i j hj) (QB _ _)
    ·refine CallN.autoQ [] QkA (QkQ s.works.length (wrkG s.works) false (by have := hs.works; omega) (fun _ _ _ _ => Qj _ _)) (Go0 ?_)
     refine Dr.mk hΓ hMix (by kernel_rfl) (Go0 ?_)
     refine CallP.auto Qej (Qei s.sav.ents (by have := hs.ents; omega) ) (Go0 ?_)
     refine CallP.auto QlW (QlN s.sav.recs (by have := hs.recs; omega) ) (Go0 ?_)
     refine CallN.autoQ [] Qmd (Ql4 s.evs.length (evG s.evs) false (by have := hs.evs; omega) (fun _ _ _ _ => QaP _ _)) (Go0 ?_)
     refine ⟨_, _, ?_, rfl, rfl⟩
     refine RM.fz 2 rfl (Nat.zero_le _) (fun _ _ _ _ => rfl) ?_
     refine RM.renW [3, 4, 5] (by decide) ?_ ?_ <;> (first|exact wb0|refine wb1 ?_|refine wb2 ?_ ?_|refine wb3 ?_ ?_ ?_|refine wb4 ?_ ?_ ?_ ?_)
     ·exact fun i _ j _ => WC.fzI (QB _ _)
     ·exact fun i _ j _ => WC.fzReI (Qj _ _)
     ·exact fun i _ j _ => WC.fzReI (QaP _ _)
theorem Qqp : HB 49 := hB Tryz.func49
theorem QrC {x y a b : Int} (h1 : -a ≤ x) (h2 : x ≤ a) (h3 : 0 ≤ y) (h4 : y ≤ b) : -(a * b) ≤ x * y ∧ x * y ≤ a * b := by
 have ha : 0 ≤ a := by omega
 have e1 : x * y ≤ a * y := Int.mul_le_mul_of_nonneg_right h2 h3
 have e2 : a * y ≤ a * b := Int.mul_le_mul_of_nonneg_left h4 ha
 have e3 : (-a) * y ≤ x * y := Int.mul_le_mul_of_nonneg_right h1 h3
 have e4 : -(a * b) ≤ -a * y := by rw [Int.neg_mul]; omega
 exact ⟨om, om⟩
theorem QcP {c : Conf} (h : QbQ c = true) : -300 ≤ Qq c ∧ Qq c ≤ 32 := by
 have := Qae h
 rw [confR_iff] at h
 unfold Qq
 omega
theorem Qlp {c : Conf} (h : QbQ c = true) : -20000 ≤ (Qq c - 3) * (c.size - 1) ∧ (Qq c - 3) * (c.size - 1) ≤ 20000 := by
 have h1 := QcP h
 rw [confR_iff] at h
 have := QrC (x := Qq c - 3) (y := c.size - 1) (a := 303) (b := 63) om om om om
 omega
def Lay.cells (c : Conf) : List C := [.int .i64 (Qo c), .int .i64 (2 * Qo c), .int .i64 (Qq c), .int .i64 (capN c)]
theorem Qk5 {c : Conf} (h : QbQ c = true) : IntKind.i64.wrap ((IntKind.i64.wrap (IntKind.i64.wrap (IntKind.i64.wrap (c.blocks + 2) + c.size) - 1)).tdiv c.size) = Qo c := by
 have hr := confR_iff.1 h
 have hs := Qae h
 rw [Qa (c.blocks + 2) om om, Qa (c.blocks + 2 + c.size) om om, Qa (c.blocks + 2 + c.size - 1) om om]
 exact Qa _ (by unfold Qo at hs; omega) (by unfold Qo at hs; omega)
theorem Qfp {c : Conf} (h : QbQ c = true) : IntKind.i64.wrap (c.zones - IntKind.i64.wrap (2 * Qo c)) = Qq c := by
 have hr := confR_iff.1 h
 have hs := Qae h
 rw [Qa (2 * Qo c) om om]
 exact Qa _ om om
theorem QnM {c : Conf} (h : QbQ c = true) : IntKind.i64.wrap (IntKind.i64.wrap (IntKind.i64.wrap (IntKind.i64.wrap (Qq c - 3) * IntKind.i64.wrap (c.size - 1)) - c.queues) - 1) = capN c := by
 have hr := confR_iff.1 h
 have hd := QcP h
 have hc := Qlp h
 rw [Qa (Qq c - 3) om om, Qa (c.size - 1) om om, Qa ((Qq c - 3) * (c.size - 1)) om om, Qa ((Qq c - 3) * (c.size - 1) - c.queues) om om]
 exact Qa ((Qq c - 3) * (c.size - 1) - c.queues - 1) om om
theorem QjK (c : Conf) (h : QbQ c = true) : PS 135 [.a c.cells] (.a (Lay.cells c)) := by
 refine PSpec.rm ?_
 have hr := confR_iff.1 h
 have hs := Qae h
 have hd := QcP h
 have hc := Qlp h
 refine ov0 hΓ Tryz.func135 37 0 [.cell 2 121] Tryz.ntmps135 Tryz.results135 ?_
 refine RM.immW rfl ?_;(first|exact wb0|refine wb1 ?_|refine wb2 ?_ ?_|refine wb3 ?_ ?_ ?_|refine wb4 ?_ ?_ ?_ ?_)
 all_goals rw [Qk5 h]
 ·have hs := Qae h
  exact Qa _ om om
 ·exact Qfp h
 ·rw [Qfp h]; exact QnM h
theorem Qjx : HB 135 := hB Tryz.func135
theorem Qgn (c : Conf) (h : QbQ c = true) : PS 152 [.a c.cells] (.a (Lay.cells c)) := by
 refine PSpec.rm ?_
 have hr := confR_iff.1 h
 refine ov0 hΓ Tryz.func152 35 0 [.cell 2 121] Tryz.ntmps152 Tryz.results152 ?_
 refine RM.immW rfl ?_;(first|exact wb0|refine wb1 ?_|refine wb2 ?_ ?_|refine wb3 ?_ ?_ ?_|refine wb4 ?_ ?_ ?_ ?_)
 all_goals rw [Qk5 h]
 ·have hs := Qae h
  exact Qa _ om om
 ·exact Qfp h
 ·rw [Qfp h]; exact QnM h
theorem QgF : HB 152 := hB Tryz.func152
theorem Qcq (c : Conf) : PS 82 [.a c.cells] (.c (.int .i64 (Qw c))) := by
 refine PSpec.rm ?_
 refine ov0 hΓ Tryz.func82 72 0 [.tmp 2] Tryz.ntmps82 Tryz.results82 ?_
 (first|refine Br.od (fun h=>?_) (fun h=>?_)|refine Br.mk (fun h=>?_) (fun h=>?_)<;>simp [-List.length_eq_zero_iff,-List.getD_eq_getElem?_getD] at h)<;>(try simp only [Int.toNat_natCast] at h)<;>(conv=>whnf)
 ·have hn : Qw c = 1 := by
   unfold Qw
   rw [if_neg]
   intro e
   have := confR_iff.1 e
   omega
  rw [hn]
  exact RM.i0
 ·have hr : QbQ c = true := confR_iff.2 om
  refine CallN.pureA QgF (Qgn c hr ) (Go0 ?_)
  (first|refine Br.od (fun h2=>?_) (fun h2=>?_)|refine Br.mk (fun h2=>?_) (fun h2=>?_)<;>simp [-List.length_eq_zero_iff,-List.getD_eq_getElem?_getD] at h2)<;>(try simp only [Int.toNat_natCast] at h2)<;>(conv=>whnf)
  ·refine Go0 ?_
   rw [show Qw c = 11 by unfold Qw; rw [if_pos hr, if_pos h2]]
   exact RM.i0
  ·refine Go0 ?_
   rw [show Qw c = 0 by unfold Qw; rw [if_pos hr, if_neg om]]
   exact RM.i0
theorem Qcs : HB 82 := hB Tryz.func82
theorem QfF (c : Conf) : PS 134 [.a c.cells] (.c (.int .i64 (Qw c))) := by
 refine PSpec.rm ?_
 refine ov hΓ Tryz.func134 55 0 [.tmp 2] Tryz.ntmps134 Tryz.results134 ?_
 have bad : ¬ QbQ c = true → Qw c = 1 := fun e => by unfold Qw; rw [if_neg e]
 refine Go0 ?_
 refine Lp.roll hΓ 7 (Go0 ?_)
 refine Br.yes rfl (Go0 ?_)
 (first|refine Br.od (fun h0=>?_) (fun h0=>?_)|refine Br.mk (fun h0=>?_) (fun h0=>?_)<;>simp [-List.length_eq_zero_iff,-List.getD_eq_getElem?_getD] at h0)<;>(try simp only [Int.toNat_natCast] at h0)<;>(conv=>whnf)
 ·refine Go0 ?_
  rw [bad (fun e => by have := confR_iff.1 e; omega)]
  exact RM.i0
 ·refine Go0 ?_
  refine Br.yes rfl (Go0 ?_)
  (first|refine Br.od (fun h1=>?_) (fun h1=>?_)|refine Br.mk (fun h1=>?_) (fun h1=>?_)<;>simp [-List.length_eq_zero_iff,-List.getD_eq_getElem?_getD] at h1)<;>(try simp only [Int.toNat_natCast] at h1)<;>(conv=>whnf)
  ·refine Go0 ?_
   rw [bad (fun e => by have := confR_iff.1 e; omega)]
   exact RM.i0
  ·refine Go0 ?_
   refine Br.yes rfl (Go0 ?_)
   (first|refine Br.od (fun h2=>?_) (fun h2=>?_)|refine Br.mk (fun h2=>?_) (fun h2=>?_)<;>simp [-List.length_eq_zero_iff,-List.getD_eq_getElem?_getD] at h2)<;>(try simp only [Int.toNat_natCast] at h2)<;>(conv=>whnf)
   ·refine Go0 ?_
    rw [bad (fun e => by have := confR_iff.1 e; omega)]
    exact RM.i0
   ·refine Go0 ?_
    refine Br.yes rfl (Go0 ?_)
    (first|refine Br.od (fun h3=>?_) (fun h3=>?_)|refine Br.mk (fun h3=>?_) (fun h3=>?_)<;>simp [-List.length_eq_zero_iff,-List.getD_eq_getElem?_getD] at h3)<;>(try simp only [Int.toNat_natCast] at h3)<;>(conv=>whnf)
    ·refine Go0 ?_
     rw [bad (fun e => by have := confR_iff.1 e; omega)]
     exact RM.i0
    ·refine Go0 ?_
     refine Br.yes rfl (Go0 ?_)
     (first|refine Br.od (fun h4=>?_) (fun h4=>?_)|refine Br.mk (fun h4=>?_) (fun h4=>?_)<;>simp [-List.length_eq_zero_iff,-List.getD_eq_getElem?_getD] at h4)<;>(try simp only [Int.toNat_natCast] at h4)<;>(conv=>whnf)
     ·refine Go0 ?_
      rw [bad (fun e => by have := confR_iff.1 e; omega)]
      exact RM.i0
     ·refine Go0 ?_
      refine Br.yes rfl (Go0 ?_)
      (first|refine Br.od (fun h5=>?_) (fun h5=>?_)|refine Br.mk (fun h5=>?_) (fun h5=>?_)<;>simp [-List.length_eq_zero_iff,-List.getD_eq_getElem?_getD] at h5)<;>(try simp only [Int.toNat_natCast] at h5)<;>(conv=>whnf)
      ·refine Go0 ?_
       rw [bad (fun e => by have := confR_iff.1 e; omega)]
       exact RM.i0
      ·refine Go0 ?_
       refine Br.no rfl (Go0 ?_)
       have hr : QbQ c = true := confR_iff.2 om
       refine CallN.pureA Qjx (QjK c hr ) (Go0 ?_)
       (first|refine Br.od (fun h9=>?_) (fun h9=>?_)|refine Br.mk (fun h9=>?_) (fun h9=>?_)<;>simp [-List.length_eq_zero_iff,-List.getD_eq_getElem?_getD] at h9)<;>(try simp only [Int.toNat_natCast] at h9)<;>(conv=>whnf)
       ·refine Go0 ?_
        rw [show Qw c = 11 by unfold Qw; rw [if_pos hr, if_pos h9]]
        exact RM.i0
       ·refine Go0 ?_
        rw [show Qw c = 0 by unfold Qw; rw [if_pos hr, if_neg om]]
        exact RM.i0
theorem QfI : HB 134 := hB Tryz.func134
def layM (c : Conf) : List C := if Qw c = 0 then Lay.cells c else [.int .i64 0, .int .i64 0, .int .i64 0, .int .i64 0]
theorem Qjq {c : Conf} (h : Qw c = 0) : layM c = Lay.cells c := if_pos h
theorem QnH {c : Conf} (h : Qw c ≠ 0) : layM c = [.int .i64 0, .int .i64 0, .int .i64 0, .int .i64 0] := if_neg h
theorem QmJ (c : Conf) : PS 52 [.a c.cells] (.t [.inr (layM c), .inl (.int .i64 (Qw c))]) := by
 refine PSpec.rm ?_
 refine ov0 hΓ Tryz.func52 13 0 [.cell 2 121, .tmp 3] Tryz.ntmps52 Tryz.results52 ?_
 refine CallN.pureA QfI (QfF c ) (Go0 ?_)
 refine Br.of (fun h=>Go0 ?_) (fun h=>Go0 ?_)
 ·rw [QnH h]
  exact RM.i0
 ·have h0 : Qw c = 0 := by omega
  refine CallN.pureA Qjx (QjK c (Qv h0).1 ) (Go0 ?_)
  rw [Qjq h0, h0]
  exact RM.i0
theorem Qtv (c : Conf) : PS 90 [.a c.cells] (.t [.inr (layM c), .inl (.int .i64 (Qw c))]) := by
 refine PSpec.rm ?_
 refine ov0 hΓ Tryz.func90 13 0 [.cell 2 121, .tmp 3] Tryz.ntmps90 Tryz.results90 ?_
 refine CallN.pureA Qcs (Qcq c ) (Go0 ?_)
 refine Br.of (fun h=>Go0 ?_) (fun h=>Go0 ?_)
 ·rw [QnH h]
  exact RM.i0
 ·have h0 : Qw c = 0 := by omega
  refine CallN.pureA QgF (Qgn c (Qv h0).1 ) (Go0 ?_)
  rw [Qjq h0, h0]
  exact RM.i0
theorem QjQ (c : Conf) (h : Qw c = 0) : PS 52 [.a c.cells] (.t [.inr (Lay.cells c), .inl (.int .i64 0)]) := by
 have := QmJ c
 rwa [Qjq h, h] at this
theorem QjT : HB 52 := hB Tryz.func52
theorem Qql (c : Conf) (h : Qw c ≠ 0) : PS 52 [.a c.cells] (.t [.inr [.int .i64 0, .int .i64 0, .int .i64 0, .int .i64 0], .inl (.int .i64 (Qw c))]) := by
 have := QmJ c
 rwa [QnH h] at this
theorem Qp6 : HB 52 := hB Tryz.func52
theorem Qkb (c : Conf) (h : Qw c = 0) : PS 90 [.a c.cells] (.t [.inr (Lay.cells c), .inl (.int .i64 0)]) := by
 have := Qtv c
 rwa [Qjq h, h] at this
theorem QjY : HB 90 := hB Tryz.func90
theorem Qe6 (c : Conf) (z : Int) : PS 225 [.a c.cells, .c (.int .i64 z)] (.c (.bool (QO c z))) := by
 refine PSpec.rm ?_
 refine ov0 hΓ Tryz.func225 26 0 [.tmp 4] Tryz.ntmps225 Tryz.results225 ?_
 by_cases h : Qw c = 0
 ·refine CallN.pureA QjT (QjQ c h ) (Go0 ?_)
  refine RM.i1 ?_
  unfold QO
  by_cases h1 : 2 * Qo c ≤ z <;> simp [h, h1]
 ·refine CallN.pureA Qp6 (Qql c h ) (Go0 ?_)
  refine RM.i1 ?_
  unfold QO
  simp [h]
theorem QeM : HB 225 := hB Tryz.func225
theorem Qdz (c : Conf) (z : Int) : PS 185 [.a c.cells, .c (.int .i64 z)] (.c (.bool (QO c z))) := by
 refine PSpec.rm ?_
 refine ov0 hΓ Tryz.func185 21 0 [.tmp 4] Tryz.ntmps185 Tryz.results185 ?_
 refine CallN.pureA Qcs (Qcq c ) (Go0 ?_)
 refine CallG.auto QgF (fun hg => Qgn c (Qv (of_decide_eq_true hg)).1) (Go0 ?_)
 refine RM.i1 ?_
 unfold QO
 by_cases h : Qw c = 0
 ·by_cases h1 : 2 * Qo c ≤ z <;> simp [h, h1]
 ·simp [h]
theorem Qdv : HB 185 := hB Tryz.func185
end Go.Proofs
end
