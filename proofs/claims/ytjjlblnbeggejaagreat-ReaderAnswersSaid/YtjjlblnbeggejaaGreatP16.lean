/- Contracts, lemmas; no condition. -/
import Derived.Test.YtjjlblnbeggejaaGreatP10
import Derived.Test.YtjjlblnbeggejaaGreatP12
import Derived.Test.YtjjlblnbeggejaaGreatP15
import Derived.Test.YtjjlblnbeggejaaGreatEnv
set_option linter.all false
section
open Go Go.Am
namespace Go.Proofs
set_option maxRecDepth 20000
variable {k : Nat} {x : List C} {c : Conf}
theorem Qdl (n : Nat) (g : Nat → Nat → C) (t : Bool) (hn : n ≤ 10000000) (him : ∀ i, i < n → ∀ j, j < 1 → (g i j).imm = true) : CS 148 [.c (.isl 1 n g t)] [] fun s H => s = .c (.sl 0 1 n n false) ∧ H = [.arr 3 1 n g] := by
 refine CSpec.rm ?_
 refine ov0 hΓ Tryz.func148 8 0 [.tmp 2] Tryz.ntmps148 Tryz.results148 ?_
 intro b hb
 refine Go0 ?_
 refine Br.of (fun h=>Go0 ?_) (fun h=>Go0 ?_)
 ·have : n = 0 := by
   rcases Qx3 n with c | c
   ·exact c
   ·exact absurd h (by rw [hb c]; simp)
  subst this
  exact ⟨_, _, QvV 3 1 g, rfl, rfl⟩
 ·refine ⟨_, _, ?_, rfl, rfl⟩
  refine QvN ?_
  intro i hi j hj
  exact WC.eq (by simp [appG]) (him i om j hj)
theorem Qfo : HB 148 := hB Tryz.func148
theorem QbW : HB 148 := hB Tryz.func148
theorem QjP (n : Nat) (g : Nat → Nat → C) (t : Bool) (hn : n ≤ 10000000) (him : ∀ i, i < n → ∀ j, j < 1 → (g i j).imm = true) : CS 219 [.c (.isl 1 n g t)] [] fun s H => s = .c (.sl 0 1 n n false) ∧ H = [.arr 9 1 n g] := by
 refine CSpec.rm ?_
 refine ov0 hΓ Tryz.func219 8 0 [.tmp 2] Tryz.ntmps219 Tryz.results219 ?_
 intro b hb
 refine Go0 ?_
 refine Br.of (fun h=>Go0 ?_) (fun h=>Go0 ?_)
 ·have : n = 0 := by
   rcases Qx3 n with c | c
   ·exact c
   ·exact absurd h (by rw [hb c]; simp)
  subst this
  exact ⟨_, _, QvV 9 1 g, rfl, rfl⟩
 ·refine ⟨_, _, ?_, rfl, rfl⟩
  refine QvN ?_
  intro i hi j hj
  exact WC.eq (by simp [appG]) (him i om j hj)
theorem Qld : HB 219 := hB Tryz.func219
theorem Qjw (n : Nat) (g : Nat → Nat → C) (t : Bool) (hn : n ≤ 10000000) (him : ∀ i, i < n → ∀ j, j < 3 → (g i j).imm = true) : CS 218 [.c (.isl 3 n g t)] [] fun s H => s = .c (.sl 0 3 n n false) ∧ H = [.arr 76 3 n g] := by
 refine CSpec.rm ?_
 refine ov0 hΓ Tryz.func218 8 0 [.tmp 2] Tryz.ntmps218 Tryz.results218 ?_
 intro b hb
 refine Go0 ?_
 refine Br.of (fun h=>Go0 ?_) (fun h=>Go0 ?_)
 ·have : n = 0 := by
   rcases Qx3 n with c | c
   ·exact c
   ·exact absurd h (by rw [hb c]; simp)
  subst this
  exact ⟨_, _, QvV 76 3 g, rfl, rfl⟩
 ·refine ⟨_, _, ?_, rfl, rfl⟩
  refine QvN ?_
  intro i hi j hj
  exact WC.eq (by simp [appG]) (him i om j hj)
theorem QiC : HB 218 := hB Tryz.func218
theorem Qlc (n : Nat) (g : Nat → Nat → C) (t : Bool) (hn : n ≤ 10000000) (him : ∀ i, i < n → ∀ j, j < 1 → (g i j).imm = true) : CS 146 [.c (.isl 1 n g t)] [] fun s H => s = .c (.sl 0 1 n n false) ∧ H = [.arr 50 1 n g] := by
 refine CSpec.rm ?_
 refine ov0 hΓ Tryz.func146 8 0 [.tmp 2] Tryz.ntmps146 Tryz.results146 ?_
 intro b hb
 refine Go0 ?_
 refine Br.of (fun h=>Go0 ?_) (fun h=>Go0 ?_)
 ·have : n = 0 := by
   rcases Qx3 n with c | c
   ·exact c
   ·exact absurd h (by rw [hb c]; simp)
  subst this
  exact ⟨_, _, QvV 50 1 g, rfl, rfl⟩
 ·refine ⟨_, _, ?_, rfl, rfl⟩
  refine QvN ?_
  intro i hi j hj
  exact WC.eq (by simp [appG]) (him i om j hj)
theorem Qlv : HB 146 := hB Tryz.func146
theorem Qkf (n : Nat) (g : Nat → Nat → C) (t : Bool) (hn : n ≤ 10000000) (him : ∀ i, i < n → ∀ j, j < 6 → (g i j).imm = true) : CS 147 [.c (.isl 6 n g t)] [] fun s H => s = .c (.sl 0 6 n n false) ∧ H = [.arr 47 6 n g] := by
 refine CSpec.rm ?_
 refine ov0 hΓ Tryz.func147 8 0 [.tmp 2] Tryz.ntmps147 Tryz.results147 ?_
 intro b hb
 refine Go0 ?_
 refine Br.of (fun h=>Go0 ?_) (fun h=>Go0 ?_)
 ·have : n = 0 := by
   rcases Qx3 n with c | c
   ·exact c
   ·exact absurd h (by rw [hb c]; simp)
  subst this
  exact ⟨_, _, QvV 47 6 g, rfl, rfl⟩
 ·refine ⟨_, _, ?_, rfl, rfl⟩
  refine QvN ?_
  intro i hi j hj
  exact WC.eq (by simp [appG]) (him i om j hj)
theorem Qd0 : HB 147 := hB Tryz.func147
theorem QjS (n : Nat) (g : Nat → Nat → C) (t : Bool) (hn : n ≤ 10000000) (him : ∀ i, i < n → ∀ j, j < 2 → (g i j).imm = true) : CS 149 [.c (.isl 2 n g t)] [] fun s H => s = .c (.sl 0 2 n n false) ∧ H = [.arr 70 2 n g] := by
 refine CSpec.rm ?_
 refine ov0 hΓ Tryz.func149 8 0 [.tmp 2] Tryz.ntmps149 Tryz.results149 ?_
 intro b hb
 refine Go0 ?_
 refine Br.of (fun h=>Go0 ?_) (fun h=>Go0 ?_)
 ·have : n = 0 := by
   rcases Qx3 n with c | c
   ·exact c
   ·exact absurd h (by rw [hb c]; simp)
  subst this
  exact ⟨_, _, QvV 70 2 g, rfl, rfl⟩
 ·refine ⟨_, _, ?_, rfl, rfl⟩
  refine QvN ?_
  intro i hi j hj
  exact WC.eq (by simp [appG]) (him i om j hj)
theorem Qlz : HB 149 := hB Tryz.func149
theorem Qj2 (n : Nat) (g : Nat → Nat → C) (t : Bool) (hn : n ≤ 10000000) (him : ∀ i, i < n → ∀ j, j < 2 → (g i j).imm = true) : CS 150 [.c (.isl 2 n g t)] [] fun s H => s = .c (.sl 0 2 n n false) ∧ H = [.arr 164 2 n g] := by
 refine CSpec.rm ?_
 refine ov0 hΓ Tryz.func150 8 0 [.tmp 2] Tryz.ntmps150 Tryz.results150 ?_
 intro b hb
 refine Go0 ?_
 refine Br.of (fun h=>Go0 ?_) (fun h=>Go0 ?_)
 ·have : n = 0 := by
   rcases Qx3 n with c | c
   ·exact c
   ·exact absurd h (by rw [hb c]; simp)
  subst this
  exact ⟨_, _, QvV 164 2 g, rfl, rfl⟩
 ·refine ⟨_, _, ?_, rfl, rfl⟩
  refine QvN ?_
  intro i hi j hj
  exact WC.eq (by simp [appG]) (him i om j hj)
theorem QjR : HB 150 := hB Tryz.func150
theorem Qj3 (n : Nat) (g : Nat → Nat → C) (t : Bool) (hn : n ≤ 10000000) (him : ∀ i, i < n → ∀ j, j < 4 → (g i j).imm = true) : CS 151 [.c (.isl 4 n g t)] [] fun s H => s = .c (.sl 0 4 n n false) ∧ H = [.arr 92 4 n g] := by
 refine CSpec.rm ?_
 refine ov0 hΓ Tryz.func151 8 0 [.tmp 2] Tryz.ntmps151 Tryz.results151 ?_
 intro b hb
 refine Go0 ?_
 refine Br.of (fun h=>Go0 ?_) (fun h=>Go0 ?_)
 ·have : n = 0 := by
   rcases Qx3 n with c | c
   ·exact c
   ·exact absurd h (by rw [hb c]; simp)
  subst this
  exact ⟨_, _, QvV 92 4 g, rfl, rfl⟩
 ·refine ⟨_, _, ?_, rfl, rfl⟩
  refine QvN ?_
  intro i hi j hj
  exact WC.eq (by simp [appG]) (him i om j hj)
theorem Qls : HB 151 := hB Tryz.func151
theorem QjK (n : Nat) (g : Nat → Nat → C) (t : Bool) (hn : n ≤ 10000000) (him : ∀ i, i < n → ∀ j, j < 12 → (g i j).imm = true) : CS 152 [.c (.isl 12 n g t)] [] fun s H => s = .c (.sl 0 12 n n false) ∧ H = [.arr 94 12 n g] := by
 refine CSpec.rm ?_
 refine ov0 hΓ Tryz.func152 8 0 [.tmp 2] Tryz.ntmps152 Tryz.results152 ?_
 intro b hb
 refine Go0 ?_
 refine Br.of (fun h=>Go0 ?_) (fun h=>Go0 ?_)
 ·have : n = 0 := by
   rcases Qx3 n with c | c
   ·exact c
   ·exact absurd h (by rw [hb c]; simp)
  subst this
  exact ⟨_, _, QvV 94 12 g, rfl, rfl⟩
 ·refine ⟨_, _, ?_, rfl, rfl⟩
  refine QvN ?_
  intro i hi j hj
  exact WC.eq (by simp [appG]) (him i om j hj)
theorem Qj1 : HB 152 := hB Tryz.func152
theorem QjW (n : Nat) (g : Nat → Nat → C) (t : Bool) (hn : n ≤ 10000000) (him : ∀ i, i < n → ∀ j, j < 5 → (g i j).imm = true) : CS 153 [.c (.isl 5 n g t)] [] fun s H => s = .c (.sl 0 5 n n false) ∧ H = [.arr 109 5 n g] := by
 refine CSpec.rm ?_
 refine ov0 hΓ Tryz.func153 8 0 [.tmp 2] Tryz.ntmps153 Tryz.results153 ?_
 intro b hb
 refine Go0 ?_
 refine Br.of (fun h=>Go0 ?_) (fun h=>Go0 ?_)
 ·have : n = 0 := by
   rcases Qx3 n with c | c
   ·exact c
   ·exact absurd h (by rw [hb c]; simp)
  subst this
  exact ⟨_, _, QvV 109 5 g, rfl, rfl⟩
 ·refine ⟨_, _, ?_, rfl, rfl⟩
  refine QvN ?_
  intro i hi j hj
  exact WC.eq (by simp [appG]) (him i om j hj)
theorem Qlg : HB 153 := hB Tryz.func153
theorem Qlu (n : Nat) (g : Nat → Nat → C) (t : Bool) (hn : n ≤ 10000000) (him : ∀ i, i < n → ∀ j, j < 8 → (g i j).imm = true) : CS 154 [.c (.isl 8 n g t)] [] fun s H => s = .c (.sl 0 8 n n false) ∧ H = [.arr 100 8 n g] := by
 refine CSpec.rm ?_
 refine ov0 hΓ Tryz.func154 8 0 [.tmp 2] Tryz.ntmps154 Tryz.results154 ?_
 intro b hb
 refine Go0 ?_
 refine Br.of (fun h=>Go0 ?_) (fun h=>Go0 ?_)
 ·have : n = 0 := by
   rcases Qx3 n with c | c
   ·exact c
   ·exact absurd h (by rw [hb c]; simp)
  subst this
  exact ⟨_, _, QvV 100 8 g, rfl, rfl⟩
 ·refine ⟨_, _, ?_, rfl, rfl⟩
  refine QvN ?_
  intro i hi j hj
  exact WC.eq (by simp [appG]) (him i om j hj)
theorem Qll : HB 154 := hB Tryz.func154
theorem QbY (l : List Int) (hn : l.length ≤ 10000000) : PS 148 [.c (Qh l)] (.c (Qh l)) := Qwb (Qdl _ _ _ hn fun _ _ _ _ => rfl) fun _ _ _ _ => rfl
theorem QlI (l : List ByteArray) (hn : l.length ≤ 10000000) : PS 219 [.c (Qay l)] (.c (Qay l)) := Qwb (QjP _ _ _ hn fun _ _ _ _ => rfl) fun _ _ _ _ => rfl
theorem Qd2 (l : List Ent) (hn : l.length ≤ 10000000) : PS 147 [.c (Qap l)] (.c (Qap l)) := Qwb (Qkf _ _ _ hn fun _ _ _ _ => Qaw _ _) fun _ _ _ _ => Qaw _ _
theorem Qlb (l : List Ret) (hn : l.length ≤ 10000000) : PS 149 [.c (retC l)] (.c (retC l)) := Qwb (QjS _ _ _ hn fun _ _ _ _ => Qe6 _ _) fun _ _ _ _ => Qe6 _ _
theorem QlG (l : List Req) (hn : l.length ≤ 10000000) : PS 151 [.c (reqC l)] (.c (reqC l)) := Qwb (Qj3 _ _ _ hn fun _ _ _ _ => QhJ _ _) fun _ _ _ _ => QhJ _ _
theorem QlH (l : List Rec) (hn : l.length ≤ 10000000) : PS 153 [.c (Qqr l)] (.c (Qqr l)) := Qwb (QjW _ _ _ hn fun _ _ _ _ => QhE _ _) fun _ _ _ _ => QhE _ _
theorem QpM {l : List Zone} (hx : x = [Qay (l.getD k default).sectors]) (i j : Nat) (hj : j < 3) : updG (Qaa l) k 2 x i j = Qaa l i j := by
 subst hx
 rw [QX]
 split
 ·rename_i c
  obtain ⟨rfl, rfl⟩ := c
  rfl
 ·rfl
theorem Qoc (d : Dev) (hd : d.small) : PS 145 [.a d.cells] (.a d.cells) := by
 refine PSpec.rm ?_
 refine ov hΓ Tryz.func145 28 0 [.cell 2 29] Tryz.ntmps145 Tryz.results145 ?_
 have hz := hd.z
 refine Go0 ?_
 refine CallN.autoQ [] QiC (Qjw d.zones.length (Qaa d.zones) false hz (fun _ _ _ _ => Qbv _ _ _)) (Go0 ?_)
 refine QuY hΓ (ι := Nat) [1, 2, 10] (fun i => [(11, .c (.int .i64 i))]) (fun _ => [.vr [.int .i64 d.size, .int .i64 d.maxOpen, .int .i64 d.maxActive, .sl 2 3 d.zones.length d.zones.length false], .vr [.int .i64 0, .int .i64 0, .int .i64 0, .nils], .arr 76 3 d.zones.length (Qaa d.zones)]) (fun i => i ≤ d.zones.length) (fun i => d.zones.length - i) 0 (Qxx _) ?_ ?_
 ·refine Qvm ?_
  exact fun i _ j _ => Qws (Qbv _ _ _)
 ·intro k hk
  have hsk := hd.s k
  refine Go0 ?_
  refine Br.of (fun h=>Go0 ?_) (fun h=>Go0 ?_)
  ·refine Dr.mk hΓ hMix (by kernel_rfl) (Go0 ?_)
   refine Frc.mk (.c (Qay (d.zones.getD k default).sectors)) rfl (Go0 ?_)
   refine CallP.auto Qld (QlI _ hsk ) (Go0 ?_)
   have w0 := Qa (↑k + 1) om om
   refine ⟨k + 1, om, om, ?_⟩
   refine Qvm ?_
   exact fun i _ j hj => WC.eq (QpM rfl i j hj) (Qbv _ _ _)
  ·refine RM.fz 2 rfl (Qxx _) (fun _ _ _ _ => Qbv _ _ _) ?_
   exact QvB
theorem Qn0 : HB 145 := hB Tryz.func145
theorem Qr3 {l : List (List Ent)} (hx : x = [Qap (l.getD k default)]) (i j : Nat) (hj : j < 1) : updG (QcE l) k 0 x i j = QcE l i j := by
 subst hx
 rw [QX]
 split
 ·rename_i c
  obtain ⟨rfl, rfl⟩ := c
  rfl
 ·rfl
theorem Qtk {l : List Rng} (hx : x = [reqC (l.getD k default).items]) (i j : Nat) (hj : j < 2) : updG (rngG l) k 1 x i j = rngG l i j := by
 subst hx
 rw [QX]
 split
 ·rename_i c
  obtain ⟨rfl, rfl⟩ := c
  rfl
 ·rfl
def St.objs (s : St) : List O := [.arr 164 2 s.rings.length (rngG s.rings), .arr 94 12 s.works.length (wrkG s.works), .arr 100 8 s.evs.length (evG s.evs)]
def St.own (s : St) (a b c : Nat) : List C := s.cellsW (.sl a 2 s.rings.length s.rings.length false) (.sl b 12 s.works.length s.works.length false) (.sl c 8 s.evs.length s.evs.length false)
set_option maxHeartbeats 4000000 in
set_option maxRecDepth 20000 in
theorem QpN (s : St) (hs : s.small) : CS 63 [.a s.cells] [] fun r H => r = .a (s.own 0 1 2) ∧ H = s.objs := by
 refine CSpec.rm ?_
 refine ov0 hΓ Tryz.func63 113 0 [.cell 2 58] Tryz.ntmps63 Tryz.results63 ?_
 refine QuU Qn0 (Qoc s.dev hs.dev ) (Go0 ?_)
 refine CallN.autoQ [] Qlv (Qlc s.map.length (QcE s.map) false (by have := hs.map; omega) (fun _ _ _ _ => rfl)) (Go0 ?_)
 refine QuY hΓ (ι := Nat) [1, 2, 18, 19] (fun i => [(20, .c (.int .i64 i))]) (fun _ => [.vr (s.cellsX (.sl 2 1 s.map.length s.map.length false) (rngC s.rings) (wrkC s.works) (evC s.evs)), .vr (default : St).cells, .arr 50 1 s.map.length (QcE s.map)]) (fun i => i ≤ s.map.length) (fun i => s.map.length - i) 0 (Qxx _) ?_ ?_
 ·refine Qvm ?_
  exact fun i _ j _ => Qws rfl
 ·intro k hk
  have hsk := hs.shard k
  refine Go0 ?_
  refine Br.of (fun h=>Go0 ?_) (fun h=>Go0 ?_)
  ·refine Frc.mk (.c (Qap (s.map.getD k default))) rfl (Go0 ?_)
   refine Dr.mk hΓ hMix (by kernel_rfl) (Go0 ?_)
   refine CallP.auto Qd0 (Qd2 (s.map.getD k default) om ) (Go0 ?_)
   have w0 := Qa (↑k + 1) (by have := hs.map; omega) (by have := hs.map; omega)
   refine ⟨k + 1, om, om, ?_⟩
   refine Qvm ?_
   exact fun i _ j hj => WC.eq (Qr3 rfl i j hj) rfl
  ·refine Dr.mk hΓ hMix (by kernel_rfl) (Go0 ?_)
   refine CallP.auto QbW (QbY s.live (by have := hs.live; omega) ) (Go0 ?_)
   refine CallP.auto QbW (QbY s.pend (by have := hs.pend; omega) ) (Go0 ?_)
   refine QuU QbW (QbY s.owner (by have := hs.owner; omega) ) (Go0 ?_)
   refine Dr.mk hΓ hMix (by kernel_rfl) (Go0 ?_)
   refine CallP.auto QbW (QbY s.pins (by have := hs.pins; omega) ) (Go0 ?_)
   refine CallP.auto Qlz (Qlb s.rets (by have := hs.rets; omega) ) (Go0 ?_)
   refine QuU QbW (QbY s.free (by have := hs.free; omega) ) (Go0 ?_)
   refine CallN.autoQ [] QjR (Qj2 s.rings.length (rngG s.rings) false (by have := hs.rings; omega) (fun _ _ _ _ => Qau _ _)) (Go0 ?_)
   refine QuY hΓ (ι := Nat) [1, 2, 73] (fun i => [(74, .c (.int .i64 i))]) (fun _ => [.vr (s.cellsX (.sl 2 1 s.map.length s.map.length false) (.sl 3 2 s.rings.length s.rings.length false) (wrkC s.works) (evC s.evs)), .vr (default : St).cells, .arr 50 1 s.map.length (QcE s.map), .arr 164 2 s.rings.length (rngG s.rings)]) (fun i => i ≤ s.rings.length) (fun i => s.rings.length - i) 0 (Qxx _) ?_ ?_
   ·refine Qwy ?_ ?_
    ·exact fun i _ j _ => WC.imm rfl
    ·exact fun i _ j _ => Qws (Qau _ _)
   ·intro q hq
    have hsi := hs.items q
    refine Go0 ?_
    refine Br.of (fun h2=>Go0 ?_) (fun h2=>Go0 ?_)
    ·refine Dr.mk hΓ hMix (by kernel_rfl) (Go0 ?_)
     refine Frc.mk (.c (reqC (s.rings.getD q default).items)) rfl (Go0 ?_)
     refine CallP.auto Qls (QlG (s.rings.getD q default).items om ) (Go0 ?_)
     have w0 := Qa (↑q + 1) (by have := hs.rings; omega) (by have := hs.rings; omega)
     refine ⟨q + 1, om, om, ?_⟩
     refine Qwy ?_ ?_
     ·exact fun i _ j _ => WC.imm rfl
     ·exact fun i _ j hj => WC.eq (Qtk rfl i j hj) (Qau _ _)
    ·refine CallN.autoQ [] Qj1 (QjK s.works.length (wrkG s.works) false (by have := hs.works; omega) (fun _ _ _ _ => QaW _ _)) (Go0 ?_)
     refine Dr.mk hΓ hMix (by kernel_rfl) (Go0 ?_)
     refine CallP.auto Qd0 (Qd2 s.sav.ents (by have := hs.ents; omega) ) (Go0 ?_)
     refine CallP.auto Qlg (QlH s.sav.recs (by have := hs.recs; omega) ) (Go0 ?_)
     refine CallN.autoQ [] Qll (Qlu s.evs.length (evG s.evs) false (by have := hs.evs; omega) (fun _ _ _ _ => Qd5 _ _)) (Go0 ?_)
     refine ⟨_, _, ?_, rfl, rfl⟩
     refine RM.fz 2 rfl (Qxx _) (fun _ _ _ _ => rfl) ?_
     refine Qwe [3, 4, 5] (by decide) ?_ ?_ <;> (first|exact wb0|refine wb1 ?_|refine wb2 ?_ ?_|refine wb3 ?_ ?_ ?_|refine wb4 ?_ ?_ ?_ ?_)
     ·exact fun i _ j _ => WC.fzI (Qau _ _)
     ·exact fun i _ j _ => QwT (QaW _ _)
     ·exact fun i _ j _ => QwT (Qd5 _ _)
theorem Qqu : HB 63 := hB Tryz.func63
theorem Qqo {x y a b : Int} (h1 : -a ≤ x) (h2 : x ≤ a) (h3 : 0 ≤ y) (h4 : y ≤ b) : -(a * b) ≤ x * y ∧ x * y ≤ a * b := by
 have ha : 0 ≤ a := by omega
 have e1 : x * y ≤ a * y := Int.mul_le_mul_of_nonneg_right h2 h3
 have e2 : a * y ≤ a * b := Int.mul_le_mul_of_nonneg_left h4 ha
 have e3 : (-a) * y ≤ x * y := Int.mul_le_mul_of_nonneg_right h1 h3
 have e4 : -(a * b) ≤ -a * y := by rw [Int.neg_mul]; omega
 exact ⟨om, om⟩
theorem Qct (h : Qby c = true) : -300 ≤ Qp c ∧ Qp c ≤ 32 := by
 have := Qak h
 rw [confR_iff] at h
 unfold Qp
 omega
theorem QkM (h : Qby c = true) : -20000 ≤ (Qp c - 3) * (c.size - 1) ∧ (Qp c - 3) * (c.size - 1) ≤ 20000 := by
 have h1 := Qct h
 rw [confR_iff] at h
 have := Qqo (x := Qp c - 3) (y := c.size - 1) (a := 303) (b := 63) om om om om
 omega
def Lay.cells (c : Conf) : List C := [.int .i64 (Qz c), .int .i64 (2 * Qz c), .int .i64 (Qp c), .int .i64 (capN c)]
theorem QkC (h : Qby c = true) : IntKind.i64.wrap ((IntKind.i64.wrap (IntKind.i64.wrap (IntKind.i64.wrap (c.blocks + 2) + c.size) - 1)).tdiv c.size) = Qz c := by
 have hr := confR_iff.1 h
 have hs := Qak h
 rw [Qa (c.blocks + 2) om om, Qa (c.blocks + 2 + c.size) om om, Qa (c.blocks + 2 + c.size - 1) om om]
 exact Qa _ (by unfold Qz at hs; omega) (by unfold Qz at hs; omega)
theorem QeJ (h : Qby c = true) : IntKind.i64.wrap (c.zones - IntKind.i64.wrap (2 * Qz c)) = Qp c := by
 have hr := confR_iff.1 h
 have hs := Qak h
 rw [Qa (2 * Qz c) om om]
 exact Qa _ om om
theorem QmP (h : Qby c = true) : IntKind.i64.wrap (IntKind.i64.wrap (IntKind.i64.wrap (IntKind.i64.wrap (Qp c - 3) * IntKind.i64.wrap (c.size - 1)) - c.queues) - 1) = capN c := by
 have hr := confR_iff.1 h
 have hd := Qct h
 have hc := QkM h
 rw [Qa (Qp c - 3) om om, Qa (c.size - 1) om om, Qa ((Qp c - 3) * (c.size - 1)) om om, Qa ((Qp c - 3) * (c.size - 1) - c.queues) om om]
 exact Qa ((Qp c - 3) * (c.size - 1) - c.queues - 1) om om
theorem QjJ (c : Conf) (h : Qby c = true) : PS 276 [.a c.cells] (.a (Lay.cells c)) := by
 refine PSpec.rm ?_
 have hr := confR_iff.1 h
 have hs := Qak h
 have hd := Qct h
 have hc := QkM h
 refine ov0 hΓ Tryz.func276 37 0 [.cell 2 135] Tryz.ntmps276 Tryz.results276 ?_
 refine Qvj rfl ?_;(first|exact wb0|refine wb1 ?_|refine wb2 ?_ ?_|refine wb3 ?_ ?_ ?_|refine wb4 ?_ ?_ ?_ ?_)
 all_goals rw [QkC h]
 ·have hs := Qak h
  exact Qa _ om om
 ·exact QeJ h
 ·rw [QeJ h]; exact QmP h
theorem Qi7 : HB 276 := hB Tryz.func276
theorem Qmy (c : Conf) (h : Qby c = true) : PS 140 [.a c.cells] (.a (Lay.cells c)) := by
 refine PSpec.rm ?_
 have hr := confR_iff.1 h
 refine ov0 hΓ Tryz.func140 35 0 [.cell 2 135] Tryz.ntmps140 Tryz.results140 ?_
 refine Qvj rfl ?_;(first|exact wb0|refine wb1 ?_|refine wb2 ?_ ?_|refine wb3 ?_ ?_ ?_|refine wb4 ?_ ?_ ?_ ?_)
 all_goals rw [QkC h]
 ·have hs := Qak h
  exact Qa _ om om
 ·exact QeJ h
 ·rw [QeJ h]; exact QmP h
theorem Qm8 : HB 140 := hB Tryz.func140
theorem Qfj (c : Conf) : PS 125 [.a c.cells] (.c (.int .i64 (QB c))) := by
 refine PSpec.rm ?_
 refine ov0 hΓ Tryz.func125 72 0 [.tmp 2] Tryz.ntmps125 Tryz.results125 ?_
 (first|refine Qu9 (fun h=>?_) (fun h=>?_)|refine Br.mk (fun h=>?_) (fun h=>?_)<;>simp [-List.length_eq_zero_iff,-List.getD_eq_getElem?_getD] at h)<;>(try simp only [Qxy] at h)<;>(conv=>whnf)
 ·have hn : QB c = 1 := by
   unfold QB
   rw [Qxu]
   intro e
   have := confR_iff.1 e
   omega
  rw [hn]
  exact QuV
 ·have hr : Qby c = true := confR_iff.2 om
  refine QuU Qm8 (Qmy c hr ) (Go0 ?_)
  (first|refine Qu9 (fun h2=>?_) (fun h2=>?_)|refine Br.mk (fun h2=>?_) (fun h2=>?_)<;>simp [-List.length_eq_zero_iff,-List.getD_eq_getElem?_getD] at h2)<;>(try simp only [Qxy] at h2)<;>(conv=>whnf)
  ·refine Go0 ?_
   rw [show QB c = 11 by unfold QB; rw [Qxt hr, Qxt h2]]
   exact QuV
  ·refine Go0 ?_
   rw [show QB c = 0 by unfold QB; rw [Qxt hr, Qxu om]]
   exact QuV
theorem Qfg : HB 125 := hB Tryz.func125
theorem Qe5 (c : Conf) : PS 229 [.a c.cells] (.c (.int .i64 (QB c))) := by
 refine PSpec.rm ?_
 refine ov hΓ Tryz.func229 55 0 [.tmp 2] Tryz.ntmps229 Tryz.results229 ?_
 have bad : ¬ Qby c = true → QB c = 1 := fun e => by unfold QB; rw [Qxu e]
 refine Go0 ?_
 refine Qw0 hΓ 7 (Go0 ?_)
 refine Br.yes rfl (Go0 ?_)
 (first|refine Qu9 (fun h0=>?_) (fun h0=>?_)|refine Br.mk (fun h0=>?_) (fun h0=>?_)<;>simp [-List.length_eq_zero_iff,-List.getD_eq_getElem?_getD] at h0)<;>(try simp only [Qxy] at h0)<;>(conv=>whnf)
 ·refine Go0 ?_
  rw [bad (fun e => by have := confR_iff.1 e; omega)]
  exact QuV
 ·refine Go0 ?_
  refine Br.yes rfl (Go0 ?_)
  (first|refine Qu9 (fun h1=>?_) (fun h1=>?_)|refine Br.mk (fun h1=>?_) (fun h1=>?_)<;>simp [-List.length_eq_zero_iff,-List.getD_eq_getElem?_getD] at h1)<;>(try simp only [Qxy] at h1)<;>(conv=>whnf)
  ·refine Go0 ?_
   rw [bad (fun e => by have := confR_iff.1 e; omega)]
   exact QuV
  ·refine Go0 ?_
   refine Br.yes rfl (Go0 ?_)
   (first|refine Qu9 (fun h2=>?_) (fun h2=>?_)|refine Br.mk (fun h2=>?_) (fun h2=>?_)<;>simp [-List.length_eq_zero_iff,-List.getD_eq_getElem?_getD] at h2)<;>(try simp only [Qxy] at h2)<;>(conv=>whnf)
   ·refine Go0 ?_
    rw [bad (fun e => by have := confR_iff.1 e; omega)]
    exact QuV
   ·refine Go0 ?_
    refine Br.yes rfl (Go0 ?_)
    (first|refine Qu9 (fun h3=>?_) (fun h3=>?_)|refine Br.mk (fun h3=>?_) (fun h3=>?_)<;>simp [-List.length_eq_zero_iff,-List.getD_eq_getElem?_getD] at h3)<;>(try simp only [Qxy] at h3)<;>(conv=>whnf)
    ·refine Go0 ?_
     rw [bad (fun e => by have := confR_iff.1 e; omega)]
     exact QuV
    ·refine Go0 ?_
     refine Br.yes rfl (Go0 ?_)
     (first|refine Qu9 (fun h4=>?_) (fun h4=>?_)|refine Br.mk (fun h4=>?_) (fun h4=>?_)<;>simp [-List.length_eq_zero_iff,-List.getD_eq_getElem?_getD] at h4)<;>(try simp only [Qxy] at h4)<;>(conv=>whnf)
     ·refine Go0 ?_
      rw [bad (fun e => by have := confR_iff.1 e; omega)]
      exact QuV
     ·refine Go0 ?_
      refine Br.yes rfl (Go0 ?_)
      (first|refine Qu9 (fun h5=>?_) (fun h5=>?_)|refine Br.mk (fun h5=>?_) (fun h5=>?_)<;>simp [-List.length_eq_zero_iff,-List.getD_eq_getElem?_getD] at h5)<;>(try simp only [Qxy] at h5)<;>(conv=>whnf)
      ·refine Go0 ?_
       rw [bad (fun e => by have := confR_iff.1 e; omega)]
       exact QuV
      ·refine Go0 ?_
       refine Br.no rfl (Go0 ?_)
       have hr : Qby c = true := confR_iff.2 om
       refine QuU Qi7 (QjJ c hr ) (Go0 ?_)
       (first|refine Qu9 (fun h9=>?_) (fun h9=>?_)|refine Br.mk (fun h9=>?_) (fun h9=>?_)<;>simp [-List.length_eq_zero_iff,-List.getD_eq_getElem?_getD] at h9)<;>(try simp only [Qxy] at h9)<;>(conv=>whnf)
       ·refine Go0 ?_
        rw [show QB c = 11 by unfold QB; rw [Qxt hr, Qxt h9]]
        exact QuV
       ·refine Go0 ?_
        rw [show QB c = 0 by unfold QB; rw [Qxt hr, Qxu om]]
        exact QuV
theorem Qe9 : HB 229 := hB Tryz.func229
def layM (c : Conf) : List C := if QB c = 0 then Lay.cells c else [.int .i64 0, .int .i64 0, .int .i64 0, .int .i64 0]
theorem Qjm (h : QB c = 0) : layM c = Lay.cells c := Qxt h
theorem Qmv (h : QB c ≠ 0) : layM c = [.int .i64 0, .int .i64 0, .int .i64 0, .int .i64 0] := Qxu h
theorem Qmr (c : Conf) : PS 231 [.a c.cells] (.t [.inr (layM c), .inl (.int .i64 (QB c))]) := by
 refine PSpec.rm ?_
 refine ov0 hΓ Tryz.func231 13 0 [.cell 2 135, .tmp 3] Tryz.ntmps231 Tryz.results231 ?_
 refine QuU Qe9 (Qe5 c ) (Go0 ?_)
 refine Br.of (fun h=>Go0 ?_) (fun h=>Go0 ?_)
 ·rw [Qmv h]
  exact QuV
 ·have h0 : QB c = 0 := by omega
  refine QuU Qi7 (QjJ c (QR h0).1 ) (Go0 ?_)
  rw [Qjm h0, h0]
  exact QuV
theorem Qri (c : Conf) : PS 56 [.a c.cells] (.t [.inr (layM c), .inl (.int .i64 (QB c))]) := by
 refine PSpec.rm ?_
 refine ov0 hΓ Tryz.func56 13 0 [.cell 2 135, .tmp 3] Tryz.ntmps56 Tryz.results56 ?_
 refine QuU Qfg (Qfj c ) (Go0 ?_)
 refine Br.of (fun h=>Go0 ?_) (fun h=>Go0 ?_)
 ·rw [Qmv h]
  exact QuV
 ·have h0 : QB c = 0 := by omega
  refine QuU Qm8 (Qmy c (QR h0).1 ) (Go0 ?_)
  rw [Qjm h0, h0]
  exact QuV
theorem Qp3 (c : Conf) (h : QB c = 0) : PS 231 [.a c.cells] (.t [.inr (Lay.cells c), .inl (.int .i64 0)]) := by
 have := Qmr c
 rwa [Qjm h, h] at this
theorem Qpo : HB 231 := hB Tryz.func231
theorem Qqj (c : Conf) (h : QB c ≠ 0) : PS 231 [.a c.cells] (.t [.inr [.int .i64 0, .int .i64 0, .int .i64 0, .int .i64 0], .inl (.int .i64 (QB c))]) := by
 have := Qmr c
 rwa [Qmv h] at this
theorem QpW : HB 231 := hB Tryz.func231
theorem QfS (c : Conf) (h : QB c = 0) : PS 56 [.a c.cells] (.t [.inr (Lay.cells c), .inl (.int .i64 0)]) := by
 have := Qri c
 rwa [Qjm h, h] at this
theorem QfZ : HB 56 := hB Tryz.func56
theorem QgI (c : Conf) (z : Int) : PS 166 [.a c.cells, .c (.int .i64 z)] (.c (.bool (Qam c z))) := by
 refine PSpec.rm ?_
 refine ov0 hΓ Tryz.func166 26 0 [.tmp 4] Tryz.ntmps166 Tryz.results166 ?_
 by_cases h : QB c = 0
 ·refine QuU Qpo (Qp3 c h ) (Go0 ?_)
  refine Qv8 ?_
  unfold Qam
  by_cases h1 : 2 * Qz c ≤ z <;> simp [h, h1]
 ·refine QuU QpW (Qqj c h ) (Go0 ?_)
  refine Qv8 ?_
  unfold Qam
  simp [h]
theorem QgD : HB 166 := hB Tryz.func166
theorem Qe8 (c : Conf) (z : Int) : PS 136 [.a c.cells, .c (.int .i64 z)] (.c (.bool (Qam c z))) := by
 refine PSpec.rm ?_
 refine ov0 hΓ Tryz.func136 21 0 [.tmp 4] Tryz.ntmps136 Tryz.results136 ?_
 refine QuU Qfg (Qfj c ) (Go0 ?_)
 refine CallG.auto Qm8 (fun hg => Qmy c (QR (Qx4 hg)).1) (Go0 ?_)
 refine Qv8 ?_
 unfold Qam
 by_cases h : QB c = 0
 ·by_cases h1 : 2 * Qz c ≤ z <;> simp [h, h1]
 ·simp [h]
theorem Qd1 : HB 136 := hB Tryz.func136
theorem QhF (n : Int) : PS 196 [.c (.int .i64 n)] (.c (.bool (QF n))) := by
  refine ov0 hΓ Tryz.func196 9 0 [.tmp 2] Tryz.ntmps196 Tryz.results196 ?_
  simp only [S.c.injEq, C.bool.injEq, QF]
  rw [QxW]
  simp
theorem QhH : HB 196 := hB Tryz.func196
theorem QdE (d : Dev) : PS 259 [d.s] (.t [.inl (.int .i64 (QH d.zones)), .inl (.int .i64 (Qi d.zones))]) := by
  refine ov hΓ Tryz.func259 30 0 [.tmp 2, .tmp 3] Tryz.ntmps259 Tryz.results259 ?_
  refine Go1 fun _h=>?_
  refine Lp.mk hΓ (ι := Nat) (fun k => [(9, .c (.int .i64 k)), (2, .c (.int .i64 (QH (d.zones.take k)))), (3, .c (.int .i64 (Qi (d.zones.take k)))), (7, .c (Qca d.zones)), (8, .c (.int .i64 d.zones.length))])
    (fun _ => []) (fun k => k ≤ d.zones.length) (fun k => d.zones.length - k) 0 (Qxx _) ?_ ?_
  · refine Mv.mk' 0 rfl trivial ?_ (QxB _)
    exact ⟨wkS.imm rfl, wkS.imm rfl, wkS.imm rfl, wkS.imm rfl, wkS.imm rfl, trivial⟩
  · intro k hk
    refine Go0 ?_
    refine Br.of (fun h=>Go0 ?_) (fun h=>Go0 ?_)
    · refine CallN.pure QhH (QhF _ ) (leA.refl rfl) rfl (Go0 ?_)
      have hlt : k < d.zones.length := by omega
      have e1 := QgH d.zones k hlt
      have e2 := Qft d.zones k hlt
      have l1 := Qjx (d.zones.take (k + 1))
      have l2 := Qgq (d.zones.take (k + 1))
      have l3 : (d.zones.take (k + 1)).length ≤ d.zones.length := by simp; omega
      have w0 := Qa (↑k + 1) om om
      refine Br.of (fun ho=>Go0 ?_) (fun ho=>Go0 ?_)
      · have ha : QP (d.zones.getD k default).state = true := by
          try simp only [Qxy] at ho
          simp only [QF, QP, Qxw] at ho ⊢; omega
        try simp only [Qxy] at ho
        rw [ho] at e1
        rw [ha] at e2
        have w1 := Qa (↑(QH (d.zones.take k)) + 1) om (by simp at e1; omega)
        have w2 := Qa (↑(Qi (d.zones.take k)) + 1) om (by simp at e2; omega)
        refine ⟨k + 1, om, om, Mv.mk' 0 rfl trivial ⟨wkS.c (wkC.int (by rw [w0]; rfl)), wkS.c (wkC.int (by rw [w1, e1]; rfl)), wkS.c (wkC.int (by rw [w2, e2]; rfl)), wkS.imm rfl, wkS.imm rfl, trivial⟩ (QxB _)⟩
      · try simp only [Qxy] at ho
        rw [ho] at e1
        refine Br.of (fun hc=>Go0 ?_) (fun hc=>Go0 ?_)
        · try simp only [Qxy] at hc
          have ha : QP (d.zones.getD k default).state = true := by simp only [QP, Qxw]; omega
          rw [ha] at e2
          have w2 := Qa (↑(Qi (d.zones.take k)) + 1) om (by simp at e2; omega)
          refine ⟨k + 1, om, om, Mv.mk' 0 rfl trivial ⟨wkS.c (wkC.int (by rw [w0]; rfl)), wkS.c (wkC.int (by rw [e1]; rfl)), wkS.c (wkC.int (by rw [w2, e2]; rfl)), wkS.imm rfl, wkS.imm rfl, trivial⟩ (QxB _)⟩
        · try simp only [Qxy] at hc
          have ha : QP (d.zones.getD k default).state = false := by
            simp only [QF, QxM] at ho
            simp only [QP, QxM]; omega
          rw [ha] at e2
          refine ⟨k + 1, om, om, Mv.mk' 0 rfl trivial ⟨wkS.c (wkC.int (by rw [w0]; rfl)), wkS.c (wkC.int (by rw [e1]; rfl)), wkS.c (wkC.int (by rw [e2]; rfl)), wkS.imm rfl, wkS.imm rfl, trivial⟩ (QxB _)⟩
    · have : k = d.zones.length := by omega
      subst this
      simp
theorem Qdu : HB 259 := hB Tryz.func259
theorem QpT (z : Zone) (size : Int) (hs : 3 ≤ size) : PS 258 [z.s, .c (.int .i64 size)] (.c (.bool (right z size))) := by
  have F : ∀ (b : Bool), right z size = b → (S.c (C.bool b) = S.c (.bool (right z size))) := fun b h => by rw [h]
  refine ov hΓ Tryz.func258 78 0 [.tmp 4] Tryz.ntmps258 Tryz.results258 ?_
  refine Go1 fun _h=>?_
  (first|refine Qu9 (fun h1=>?_) (fun h1=>?_)|refine Br.mk (fun h1=>?_) (fun h1=>?_)<;>simp [-List.length_eq_zero_iff,-List.getD_eq_getElem?_getD] at h1)<;>(try simp only [Qxy] at h1)<;>(conv=>whnf)
  · refine Go0 ?_
    refine F _ ?_
    simp only [right, QyX, QxM]; left; omega
  · refine Go0 ?_
    (first|refine Qu9 (fun h2=>?_) (fun h2=>?_)|refine Br.mk (fun h2=>?_) (fun h2=>?_)<;>simp [-List.length_eq_zero_iff,-List.getD_eq_getElem?_getD] at h2)<;>(try simp only [Qxy] at h2)<;>(conv=>whnf)
    · refine Go0 ?_
      refine F _ ?_
      simp only [right, QyX, QxM]; left; omega
    · refine Go0 ?_
      (first|refine Qu9 (fun h3=>?_) (fun h3=>?_)|refine Br.mk (fun h3=>?_) (fun h3=>?_)<;>simp [-List.length_eq_zero_iff,-List.getD_eq_getElem?_getD] at h3)<;>(try simp only [Qxy] at h3)<;>(conv=>whnf)
      · refine Go0 ?_
        refine F _ ?_
        simp only [right, QyX, QxM]; left; omega
      · refine Go0 ?_
        (first|refine Qu9 (fun h4=>?_) (fun h4=>?_)|refine Br.mk (fun h4=>?_) (fun h4=>?_)<;>simp [-List.length_eq_zero_iff,-List.getD_eq_getElem?_getD] at h4)<;>(try simp only [Qxy] at h4)<;>(conv=>whnf)
        · refine Go0 ?_
          refine F _ ?_
          simp only [right, QyX, QxM]; left; omega
        · refine Go0 ?_
          (first|refine Qu9 (fun h5=>?_) (fun h5=>?_)|refine Br.mk (fun h5=>?_) (fun h5=>?_)<;>simp [-List.length_eq_zero_iff,-List.getD_eq_getElem?_getD] at h5)<;>(try simp only [Qxy] at h5)<;>(conv=>whnf)
          · refine Go0 ?_
            refine F _ ?_
            simp only [right, QyX, QxM]; left; omega
          · refine Go1 fun _h=>?_
            have hP : right z size = QbX z.sectors := by
              have : decide (0 ≤ z.state ∧ z.state ≤ 5 ∧ (z.sectors.length : Int) ≤ size ∧ 0 ≤ z.durable ∧ z.durable ≤ z.sectors.length ∧ (z.state = 0 ∨ z.state = 5 → z.sectors.length = 0) ∧ (z.state = 4 → z.durable = z.sectors.length) ∧
    (z.state ≠ 0 → z.state ≠ 4 → z.state ≠ 5 → (z.sectors.length : Int) < size)) = true := by simp only [Qxw]; omega
              simp only [right, this, Bool.true_and]
            refine Lp.mk hΓ (ι := Nat) (fun k => [(70, .c (.int .i64 k)), (69, .c (.int .i64 z.sectors.length)), (68, .c (Qay z.sectors))]) (fun _ => []) (fun k => k ≤ z.sectors.length ∧ QbX (z.sectors.take k) = true) (fun k => z.sectors.length - k) 0 ⟨Qxx _, rfl⟩ ?_ ?_
            · exact Mv.mk' 0 rfl trivial ⟨wkS.imm rfl, wkS.imm rfl, wkS.imm rfl, trivial⟩ (QxB _)
            · rintro k ⟨hk, hk2⟩
              refine Go0 ?_
              refine Br.of (fun h=>Go1 fun _h=>?_) (fun h=>Go0 ?_)
              · have hlt : k < z.sectors.length := by omega
                (first|refine Qu9 (fun h6=>?_) (fun h6=>?_)|refine Br.mk (fun h6=>?_) (fun h6=>?_)<;>simp [-List.length_eq_zero_iff,-List.getD_eq_getElem?_getD] at h6)<;>(try simp only [Qxy] at h6)<;>(conv=>whnf)
                · refine Go0 ?_
                  refine F _ ?_
                  rw [hP]
                  exact Qiu _ k hlt (by simp at h6 ⊢; omega)
                · refine Go0 ?_
                  have w0 := Qa (↑k + 1) om om
                  refine ⟨k + 1, ⟨om, ?_⟩, om, Mv.mk' 0 rfl trivial ⟨wkS.c (wkC.int (by rw [w0]; rfl)), wkS.imm rfl, wkS.imm rfl, trivial⟩ (QxB _)⟩
                  rw [QhO _ _ hlt, hk2]
                  simp at h6 ⊢; omega
              · have : k = z.sectors.length := by omega
                subst this
                refine F _ ?_
                rw [hP]
                simpa using hk2
theorem Qpq : HB 258 := hB Tryz.func258
theorem Qd8 (d : Dev) : PS 195 [d.s] (.c (.int .i64 (check d))) := by
  refine ov hΓ Tryz.func195 75 0 [.tmp 2] Tryz.ntmps195 Tryz.results195 ?_
  refine Go1 fun _h=>?_
  (first|refine Qu9 (fun h1=>?_) (fun h1=>?_)|refine Br.mk (fun h1=>?_) (fun h1=>?_)<;>simp [-List.length_eq_zero_iff,-List.getD_eq_getElem?_getD] at h1)<;>(try simp only [Qxy] at h1)<;>(conv=>whnf)
  · refine Go0 ?_
    have : Qbg d = false := by simp only [Qbg, QxM]; omega
    simp only [check, this]; rfl
  · refine Go1 fun _h=>?_
    have hc : Qbg d = true := by simp only [Qbg, Qxw]; omega
    refine Lp.mk hΓ (ι := Nat) (fun k => [(50, .c (.int .i64 k)), (49, .c (.int .i64 d.zones.length)), (48, .c (Qca d.zones)), (1, .c (.ptr 0 0))])
      (fun _ => [.vr [.int .i64 d.size, .int .i64 d.maxOpen, .int .i64 d.maxActive, Qca d.zones]]) (fun k => k ≤ d.zones.length ∧ (d.zones.take k).all (fun z => Am.right z d.size) = true) (fun k => d.zones.length - k) 0 ⟨Qxx _, rfl⟩ ?_ ?_
    · exact Mv.mk' 1 rfl ⟨O.wk.vr (Qv rfl), trivial⟩ ⟨wkS.imm rfl, wkS.imm rfl, wkS.imm rfl, wkS.c (wkC.ptr (by decide)), trivial⟩ (Qxx _)
    · rintro k ⟨hk, hk2⟩
      refine Go0 ?_
      refine Br.of (fun h=>Go0 ?_) (fun h=>Go0 ?_)
      · have hlt : k < d.zones.length := by omega
        refine CallN.pure Qpq (QpT (d.zones.getD k default) d.size om ) (leA.refl rfl) rfl (Go0 ?_)
        refine Br.of (fun h2=>Go0 ?_) (fun h2=>Go0 ?_)
        · have : d.zones.all (fun z => Am.right z d.size) = false := Qgc _ _ k hlt h2
          simp only [check, hc, this]; rfl
        · have w0 := Qa (↑k + 1) om om
          refine ⟨k + 1, ⟨om, ?_⟩, om, Mv.mk' 1 rfl ⟨O.wk.vr (Qv rfl), trivial⟩ ⟨wkS.c (wkC.int (by rw [w0]; rfl)), wkS.imm rfl, wkS.imm rfl, wkS.c (wkC.ptr (by decide)), trivial⟩ (Qxx _)⟩
          rw [Qmd _ _ k hlt, hk2, h2]; rfl
      · have : k = d.zones.length := by omega
        subst this
        have hall : d.zones.all (fun z => Am.right z d.size) = true := by simpa using hk2
        refine CallN.pure Qdu (QdE d ) (leA.refl rfl) rfl (Go0 ?_)
        (first|refine Qu9 (fun h3=>?_) (fun h3=>?_)|refine Br.mk (fun h3=>?_) (fun h3=>?_)<;>simp [-List.length_eq_zero_iff,-List.getD_eq_getElem?_getD] at h3)<;>(try simp only [Qxy] at h3)<;>(conv=>whnf)
        · refine Go0 ?_
          have : decide ((QH d.zones : Int) ≤ d.maxOpen ∧ (Qi d.zones : Int) ≤ d.maxActive) = false := by simp only [QxM]; omega
          simp only [check, hc, hall, this]; rfl
        · refine Go0 ?_
          have : decide ((QH d.zones : Int) ≤ d.maxOpen ∧ (Qi d.zones : Int) ≤ d.maxActive) = true := by simp only [Qxw]; omega
          simp only [check, hc, hall, this]; rfl
theorem Qef : HB 195 := hB Tryz.func195
end Go.Proofs
end
