/- Contracts, lemmas; no condition. -/
import Derived.Test.YtkelkepdcfogaaaGreatP11D
import Derived.Test.YtkelkepdcfogaaaGreatP28D
import Derived.Test.YtkelkepdcfogaaaGreatP24D
import Derived.Test.YtkelkepdcfogaaaGreatP25D
import Derived.Test.YtkelkepdcfogaaaGreatP20D
import Derived.Test.YtkelkepdcfogaaaGreatP19D
set_option linter.all false
section
open Go Go.Am
namespace Go.Proofs
set_option maxRecDepth 20000
def Qb9 (b : Bas) (l : List Fnd) (k : Nat) : List Fnd := (l.take k).filter (Qah b)
theorem Qr3 (b : Bas) (l : List Fnd) (k : Nat) : (Qb9 b l k).length ≤ l.length := by
 unfold Qb9
 have := List.length_filter_le (Qah b) (l.take k)
 rw [List.length_take] at this
 omega
theorem Qsz {b : Bas} {l : List Fnd} {k : Nat} (hk : k < l.length) (h : Qah b (l.getD k default) = true) : Qb9 b l (k + 1) = Qb9 b l k ++ [l.getD k default] := by
 unfold Qb9
 rw [Q6 l hk, List.filter_append]
 simp only [List.filter_cons, List.filter_nil]
 rw [if_pos h]
theorem QtL {b : Bas} {l : List Fnd} {k : Nat} (hk : k < l.length) (h : Qah b (l.getD k default) = false) : Qb9 b l (k + 1) = Qb9 b l k := by
 unfold Qb9
 rw [Q6 l hk, List.filter_append]
 simp only [List.filter_cons, List.filter_nil]
 rw [if_neg (by rw [h]; exact Bool.false_ne_true), List.append_nil]
theorem QvM {B : Bas} {L S0 : List Fnd} {e : Array Fnd} (hall : S0 = L.filter (Qah B)) (he : e.size = S0.length ∧ Go.Sort.PermIn 0 S0.length S0.toArray e ∧ Go.Sort.SortedIn Qb 0 S0.length e) (hp : Qjt L) (hn : ∀ f ∈ L, 0 ≤ f.r.block) : Row B L e.toList := by
 obtain ⟨h1, h2, h3⟩ := he
 have hperm : e.toList.Perm S0 := by
  have := h2.2.2
  rwa [show e.extract 0 S0.length = e by rw [← h1]; exact Array.extract_size, show S0.toArray.extract 0 S0.length = S0.toArray by exact Array.extract_size] at this
 refine ⟨fun f => ?_, hp, hn, fun i j hij hj => ?_⟩
 ·rw [hperm.mem_iff, hall, List.mem_filter]
 ·have := h3 i j (Nat.zero_le _) hij (by rw [← h1]; simpa using hj)
  rwa [← getF, ← getF] at this
theorem QnE (b : Bas) (l : List Fnd) : ∀ k, (winS b l k).length ≤ k
 | 0 => Nat.le_refl _
 | k + 1 => by
  have := QnE b l k
  rw [winS]
  split
  ·omega
  ·split
   ·rw [List.length_append]; show _ + 1 ≤ _; omega
   ·omega
theorem stay_cond {b : Bas} {f : Fnd} : (bif f.r.kind == 1 then true else decide (f.r.version ≥ b.cut)) = Qgo b f := by
 unfold Qgo
 by_cases h : f.r.kind = 1 <;> simp [h] <;> rfl
set_option maxHeartbeats 8000000 in
theorem Qf4 (c : Conf) (d : Dev) (hd : d.tiny) : PS 10 [.a c.cells, .a d.cells] (.t [.inr (QbQ c d).cells, .inl (.int .i64 (QH c d))]) := by
 have hz := hd.z
 have hno : ∀ {v : Int}, QH c d = v → v ≠ 0 → QbQ c d = default := fun h h2 => if_neg (by rw [h]; exact h2)
 refine PSpec.rm ?_
 refine CSpec.of_aw hΓ Tryz.func10 196 0 [.cell 4 36, .tmp 5] Tryz.ntmps10 ?_
 refine AWn.seq hΓ (Go0 ?_)
 refine AWn.seq hΓ (Go0 ?_)
 refine CallN.pureA Qfl (Qfo c ) (Go0 ?_)
 by_cases h1 : Qn c = 0
 ·have hcf := confR_iff.1 (Qay h1).1
  refine Br.no (by simpa using h1) (Go0 ?_)
  refine AWn.seq hΓ (Go0 ?_)
  refine CallN.pureA QqL (Qrl d ) (Go0 ?_)
  by_cases h2 : check d = 0
  ·refine Br.no (by simpa using h2) (Go0 ?_)
   refine AWn.seq hΓ (Go1 fun _h=>?_)
   by_cases h3 : (d.zones.length : Int) = c.zones ∧ d.size = c.size
   ·refine Br.no (by rw [h3.2, bne_eq_false_iff_eq.2 h3.1]; simp) (Go0 ?_)
    refine AWn.seq hΓ (Go1 fun _h=>?_)
    obtain ⟨b1, b2, b3, b4⟩ := Ql3 c d
    have bsq := Qk6 c d
    have ha := Qle c hd
    have fat := fun f => Qlj (c := c) (d := d) (f := f)
    have fsm : Qjt (QaW c d) := fun f hf g hg => Qre hf hg
    generalize hL : QaW c d = L at *
    have hbad : badF c d = true → QH c d = 14 := fun q => by unfold QH; rw [if_pos h1, if_pos h2, if_pos h3, if_pos q]
    have hbL := QfQ c d
    rw [hL] at hbL
    refine Lp.mkK hΓ (ι := Nat) [2, 3, 4, 5, 52, 53] (fun k => [(54, .c (.int .i64 k))]) (fun k => [.vr c.cells, .vr d.cells, .vr (default : Img).cells]) (fun k => k ≤ d.zones.length ∧ ∀ j, j < k → badZ (d.zones.getD j default) = false) (fun k => d.zones.length - k) 0 ⟨Nat.zero_le _, fun i hi => absurd hi (Nat.not_lt_zero _)⟩ ?_ ?_
    ·exact Mv.k0
    ·rintro k ⟨hk, hk2⟩
     refine Go0 ?_
     refine Br.of (fun h4=>Go0 ?_) (fun h4=>Go0 ?_)
     ·have w0 := Qa (↑k + 1) (by omega) (by omega)
      cases c1 : badZ (d.zones.getD k default) with
      | true =>
       refine Br.yes (by exact c1) (Go0 ?_)
       have e := (QbW (by omega) c1 hk2).1
       have e := hbad (by rw [hbL]; unfold badL; rw [e]; rfl)
       rw [hno e (by decide), e]
       exact RM.i0
      | false =>
       refine Br.no (by exact c1) (Go0 ?_)
       refine ⟨k + 1, ⟨by omega, fun j hj => ?_⟩, by omega, ?_⟩
       ·rcases Nat.lt_succ_iff_lt_or_eq.1 hj with q | rfl
        ·exact hk2 j q
        ·exact c1
       ·exact Mv.k0
     ·have : k = d.zones.length := by omega
      subst this
      have e0 := QbP hk2
      refine AWn.seq hΓ (Go0 ?_)
      refine CallN.pureA Qsj (Qr6 c d hd ) (Go0 ?_)
      rw [hL]
      refine AWn.seq hΓ (Go1 fun _h=>?_)
      refine Lp.mkK hΓ (ι := Nat) [2, 3, 4, 5, 10, 66, 67] (fun k => [(68, .c (.int .i64 k))]) (fun k => [.vr c.cells, .vr d.cells, .vr (default : Img).cells]) (fun k => k ≤ L.length ∧ ∀ j, j < k → badR c (L.getD j default) = false) (fun k => L.length - k) 0 ⟨Nat.zero_le _, fun i hi => absurd hi (Nat.not_lt_zero _)⟩ ?_ ?_
      ·exact Mv.k0
      ·rintro k ⟨hk3, hk4⟩
       refine Go0 ?_
       refine Br.of (fun h5=>Go0 ?_) (fun h5=>Go0 ?_)
       ·have w0 := Qa (↑k + 1) (by omega) (by omega)
        cases c1 : badR c (L.getD k default) with
        | true =>
         refine Br.yes (badR_cond.trans c1) (Go0 ?_)
         have e := (QbW (by omega) c1 hk4).1
         have e := hbad (by rw [hbL]; unfold badL; rw [e0, e]; rfl)
         rw [hno e (by decide), e]
         exact RM.i0
        | false =>
         refine Br.no (badR_cond.trans c1) (Go0 ?_)
         refine ⟨k + 1, ⟨by omega, fun j hj => ?_⟩, by omega, ?_⟩
         ·rcases Nat.lt_succ_iff_lt_or_eq.1 hj with q | rfl
          ·exact hk4 j q
          ·exact c1
         ·exact Mv.k0
       ·have : k = L.length := by omega
        subst this
        have e1 := QbP hk4
        refine AWn.seq hΓ (Go0 ?_)
        refine CallN.pureA QoR (QoA L (by omega) ) (Go0 ?_)
        cases c5 : Qds L with
        | false =>
         refine Br.yes rfl (Go0 ?_)
         have e := hbad (by rw [hbL]; unfold badL; rw [e0, e1, c5]; rfl)
         rw [hno e (by decide), e]
         exact RM.i0
        | true =>
         refine Br.no rfl (Go0 ?_)
         have hnb : ¬ badF c d = true := by rw [hbL]; unfold badL; rw [e0, e1, c5]; exact Bool.false_ne_true
         refine AWn.seq hΓ (Go0 ?_)
         refine CallN.pureA QnJ (QmH c d hd ) (Go0 ?_)
         refine AWn.seq hΓ (Go0 ?_)
         refine AWn.join hΓ (ι := Unit) [2, 4, 5, 10, 14, 13, 15] (fun _ => []) (fun _ => [.vr c.cells, .vr d.cells, .vr (default : Img).cells, .vr (QbH c d).cells, .vr (Img.mk [] 0 (Qg c d).1.seq (Qg c d).2).cells]) (fun _ => True) ?_ ?_
         ·refine Go0 ?_
          by_cases h6 : (Qg c d).2 < 0
          ·refine Br.yes (decide_eq_true h6) (Go0 ?_)
           refine ⟨(), trivial, ?_⟩
           rw [show QbH c d = ⟨0, 1, 1, []⟩ from if_pos h6]
           exact Mv.k0
          ·refine Br.no (decide_eq_false h6) (Go0 ?_)
           refine ⟨(), trivial, ?_⟩
           rw [show QbH c d = (Qg c d).1 from if_neg h6]
           exact Mv.k0
         ·rintro ⟨⟩ _
          generalize hb : QbH c d = B at *
          refine AWn.seq hΓ (Go0 ?_)
          refine AWn.seq hΓ (Go1 fun _h=>?_)
          have hbl : B.ents.length ≤ 1000000 := by omega
          refine Lp.mkK hΓ (ι := Nat) [2, 4, 5, 10, 13, 15, 16, 103, 104] (fun k => [(105, .c (.int .i64 k))]) (fun k => [.vr c.cells, .vr d.cells, .vr (default : Img).cells, .vr B.cells, .vr (Img.mk [] 0 (Qg c d).1.seq (Qg c d).2).cells, .vr [.sl 6 7 (Qb9 B L k).length (Qb9 B L k).length false], .arr 71 7 (Qb9 B L k).length (fndG (Qb9 B L k))]) (fun k => k ≤ L.length) (fun k => L.length - k) 0 (Nat.zero_le _) ?_ ?_
          ·refine (Mv.reserveO 5 0 71 7 (fndG []) rfl rfl rfl rfl).trans ?_
           exact Mv.k0
          ·intro k hk
           have hcl := Qr3 B L k
           refine Go0 ?_
           refine Br.of (fun h7=>Go0 ?_) (fun h7=>Go0 ?_)
           ·have w0 := Qa (↑k + 1) (by omega) (by omega)
            refine CallN.pureA QnV (Qmi B (L.getD k default) hbl ) (Go0 ?_)
            cases c6 : Qah B (L.getD k default) with
            | true =>
             refine Br.yes rfl (Go0 ?_)
             refine ⟨k + 1, by omega, by omega, ?_⟩
             rw [Qsz (by omega) c6]
             refine Mv.k1 ?_
             exact fun i hi j hj => WC.eq (Qj9 rfl (by simpa using hi) hj) (Qv _ _)
            | false =>
             refine Br.no rfl (Go0 ?_)
             refine ⟨k + 1, by omega, by omega, ?_⟩
             rw [QtL (by omega) c6]
             exact Mv.k0
           ·have : k = L.length := by omega
            subst this
            have hall : Qb9 B L L.length = L.filter (Qah B) := by unfold Qb9; rw [List.take_length]
            generalize Qb9 B L L.length = S0 at *
            refine AWn.rw hΓ [_] [_, _, _] rfl (Go0 ?_)
            refine RwN.sortX (fun H' => ∃ e : Array Fnd, (e.size = S0.length ∧ Go.Sort.PermIn 0 S0.length S0.toArray e ∧ Go.Sort.SortedIn Qb 0 S0.length e) ∧ H' = [.vr c.cells, .vr d.cells, .vr (default : Img).cells, .vr B.cells, .vr (Img.mk [] 0 (Qg c d).1.seq (Qg c d).2).cells, .vr [.sl 6 7 S0.length S0.length false], .arr 71 7 S0.length (fndG e.toList)]) rfl rfl rfl rfl rfl rfl rfl rfl rfl ⟨rfl, rfl, rfl⟩ rfl rfl (e := 71) ?_ ?_ ?_ ?_
            ·kernel_rfl
            ·exact Qlv
            ·intro K F0 H0 μ0 F μ a w hs
             refine Qrf rfl hs (oa := 6) (ov := 5) (n := S0.length) (g := fndG S0) (x2 := false) rfl (by omega) (hs.tp 117) (hs.tp 16) (fun q1 => ⟨S0.toArray, ⟨rfl, Go.Sort.permIn_refl _ _ _, fun i j _ h1 h2 => by omega⟩, rfl⟩) (fun lim hlim => ?_)
             refine CSpec.frame (QtJ Quk S0.length (by omega) S0.toArray rfl 0 S0.length lim (Nat.zero_le _) (Nat.le_refl _) hlim (.inl rfl)) [6, 5] (Fr.ofW (by decide) ?_) (Qbg rfl) (WB.out ?_) (fun s Hc hq => ?_)
             ·exact WR.cons rfl (WO.arrA fun i _ j _ => WC.imm (Qv _ _)) wb0
             ·exact WB.cons (Qwi rfl rfl leN) wb0
             ·obtain ⟨e, he, rfl, rfl⟩ := hq
              refine ⟨rfl, e, he, ?_⟩
              refine Eq.trans (b := [.vr c.cells, .vr d.cells, .vr (default : Img).cells, .vr B.cells, .vr (Img.mk [] 0 (Qg c d).1.seq (Qg c d).2).cells, .vr [.sl 6 7 S0.length S0.length false], .arr 71 7 S0.length (fun i j => reC (sg [6, 5] 7) (fndG e.toList i j))]) rfl ?_
              rw [QcO]
            ·rintro H' ⟨e, he, rfl⟩
             have hrow := QvM hall he fsm (fun f hf => (fat f hf).2.1)
             have hen : e.toList.length = S0.length := he.1
             generalize e.toList = S at *
             have hlast := hrow.all (n := c.blocks.toNat)
             have hseen := hrow.seen
             rw [← hen]
             have hSl : S.length ≤ 10000 := by omega
             clear hcl hen he hall
             refine AWn.seq hΓ (Go0 ?_)
             refine AWn.seq hΓ (Go0 ?_)
             refine CallN.pureA Qpj (QoO c.shards (by omega) (by omega) ) (Go0 ?_)
             refine AWn.seq hΓ (Go0 ?_)
             refine Lp.mkK hΓ (ι := Nat) [4, 5, 10, 13, 15, 19, 129, 130] (fun k => [(131, .c (.int .i64 k))]) (fun k => [.vr c.cells, .vr d.cells, .vr (default : Img).cells, .vr B.cells, .vr (Img.mk (QaZ (QbX c.shards) (winS B S k)) 0 (Qg c d).1.seq (Qg c d).2).cells, .vr [.sl 6 7 S.length S.length false], .arr 71 7 S.length (fndG S), .mp (.c (some .i64)) [.b] false (Qf1 S k) (Qef S k)]) (fun k => k ≤ S.length) (fun k => S.length - k) 0 (Nat.zero_le _) ?_ ?_
             ·refine Mv.k1 ?_
              intro k j _ hj
              obtain rfl : j = 0 := by simpa using hj
              exact leF.of_eq rfl
             ·intro k hk
              have hml : (QaZ (QbX c.shards) (winS B S k)).length = c.shards.toNat := by rw [Qe3]; exact List.length_replicate
              have hms := Qgb (Qf0 c.shards) (winS B S k)
              have hwl := QnE B S k
              refine Go0 ?_
              refine Br.of (fun h8=>Go0 ?_) (fun h8=>Go0 ?_)
              ·have w0 := Qa (↑k + 1) (by omega) (by omega)
               refine Frc.mk _ rfl (Go0 ?_)
               have e0 : (k : Int).toNat = k := by simp
               rw [e0, Qf5]
               refine Go0 ?_
               have hks : Qf1 S (k + 1) = if Qa1 S k (S.getD k default).r.block = true then Qf1 S k else updK (Qf1 S k) (.c (.i .i64 (S.getD k default).r.block)) := rfl
               have hvl : Qef S (k + 1) = if Qa1 S k (S.getD k default).r.block = true then Qef S k else updV (Qef S k) (.c (.i .i64 (S.getD k default).r.block)) (lget [.bool true]) := rfl
               have hwn : winS B S (k + 1) = if Qa1 S k (S.getD k default).r.block = true then winS B S k else if Qgo B (S.getD k default) = true then winS B S k ++ [entF (S.getD k default)] else winS B S k := rfl
               generalize hx : S.getD k default = x at *
               cases c7 : Qa1 S k x.r.block with
               | true =>
                rw [c7, if_pos rfl] at hks hvl hwn
                refine Br.yes rfl (Go0 ?_)
                refine ⟨k + 1, by omega, by omega, ?_⟩
                rw [hks, hvl, hwn]
                exact Mv.k0
               | false =>
                rw [c7, if_neg Bool.false_ne_true] at hks hvl hwn
                refine Br.no rfl (Go0 ?_)
                cases c8 : Qgo B x with
                | true =>
                 rw [c8, if_pos rfl] at hwn
                 refine Br.yes (stay_cond.trans c8) (Go0 ?_)
                 refine CallN.pureA Qq5 (QrA (QaZ (QbX c.shards) (winS B S k)) (entF x) (by omega) (fun j => by have := hms j; omega) ) (Go0 ?_)
                 refine ⟨k + 1, by omega, by omega, ?_⟩
                 rw [hks, hvl, hwn, QfU]
                 exact Mv.k0
                | false =>
                 rw [c8, if_neg Bool.false_ne_true] at hwn
                 refine Br.no (stay_cond.trans c8) (Go0 ?_)
                 refine ⟨k + 1, by omega, by omega, ?_⟩
                 rw [hks, hvl, hwn]
                 exact Mv.k0
              ·have : k = S.length := by omega
               subst this
               refine AWn.seq hΓ (Go1 fun _h=>?_)
               refine Lp.mkK hΓ (ι := Nat) [4, 5, 10, 13, 15, 19, 175, 176] (fun k => [(177, .c (.int .i64 k))]) (fun _ => [.vr c.cells, .vr d.cells, .vr (default : Img).cells, .vr B.cells, .vr (Img.mk (QaZ (QbX c.shards) (winS B S S.length)) 0 (Qg c d).1.seq (Qg c d).2).cells, .vr [.sl 6 7 S.length S.length false], .arr 71 7 S.length (fndG S), .mp (.c (some .i64)) [.b] false (Qf1 S S.length) (Qef S S.length)]) (fun k => k ≤ B.ents.length ∧ ∀ j, j < k → (QO B L (B.ents.getD j default).block).isNone = false) (fun k => B.ents.length - k) 0 ⟨Nat.zero_le _, fun i hi => absurd hi (Nat.not_lt_zero _)⟩ ?_ ?_
               ·exact Mv.k0
               ·rintro k ⟨hk5, hk6⟩
                refine Go0 ?_
                refine Br.of (fun h9=>Go0 ?_) (fun h9=>Go0 ?_)
                ·have w0 := Qa (↑k + 1) (by omega) (by omega)
                 have hkl : k < B.ents.length := Int.ofNat_lt.1 h9
                 have e0 : (k : Int).toNat = k := by simp
                 rw [e0, Qf5, hseen]
                 refine Go0 ?_
                 cases c9 : (QO B L (B.ents.getD k default).block).isNone with
                 | true =>
                  have c9' : (QO B L (B.ents.getD k default).block).isSome = false := by rw [← Option.not_isSome, Bool.not_eq_true'] at c9; exact c9
                  refine Br.yes (by rw [c9']; rfl) (Go0 ?_)
                  have hlo : QcN c d = true := by unfold QcN; rw [hb, hL]; exact (QbW (p := fun e => (QO B L e.block).isNone) hkl c9 hk6).1
                  have e : QH c d = 14 := by unfold QH; rw [if_pos h1, if_pos h2, if_pos h3, if_neg hnb, if_pos hlo]
                  rw [hno e (by decide), e]
                  exact RM.i0
                 | false =>
                  have c9' : (QO B L (B.ents.getD k default).block).isSome = true := by rw [← Option.not_isSome, Bool.not_eq_false'] at c9; exact c9
                  refine Br.no (by rw [c9']; rfl) (Go0 ?_)
                  refine ⟨k + 1, ⟨by omega, fun j hj => ?_⟩, by omega, ?_⟩
                  ·rcases Nat.lt_succ_iff_lt_or_eq.1 hj with q | rfl
                   ·exact hk6 j q
                   ·exact c9
                  ·exact Mv.k0
                ·have hke : k = B.ents.length := Nat.le_antisymm hk5 (Int.ofNat_le.1 h9)
                 have hlo : ¬ QcN c d = true := by
                  unfold QcN
                  rw [hb, hL]
                  intro q
                  have z := QbP (l := B.ents) (p := fun e => (QO B L e.block).isNone) (fun j hj => hk6 j (by rw [hke]; exact hj))
                  rw [z] at q
                  cases q
                 have e : QH c d = 0 := by unfold QH; rw [if_pos h1, if_pos h2, if_pos h3, if_neg hnb, if_neg hlo]
                 have ei : QbQ c d = QaP c d := if_pos e
                 rw [ei, e]
                 have wn : IntKind.i64.wrap (B.next - 1) = B.next - 1 := Qa _ (by omega) (by omega)
                 have hnb' : ∀ f ∈ L, f.r.block < c.blocks.toNat := fun f hf => by
                  obtain ⟨q, hq, rfl⟩ := List.getElem_of_mem hf
                  have z := hk4 q hq
                  rw [show L.getD q default = L[q] by simp [List.getD, hq]] at z
                  unfold badR at z
                  rw [decide_eq_false_iff_not] at z
                  omega
                 have hwin := hlast hnb'
                 refine AWn.seq hΓ ?_
                 conv=>whnf
                 refine Dr.mk hΓ hMix (by kernel_rfl) (Go0 ?_)
                 refine CallP.auto Qo4 (QoU L (by omega) ) (Go0 ?_)
                 refine AWn.ofVc hΓ (Go0 ?_)
                 rw [wn, hwin, show QaP c d = ⟨QaZ (QbX c.shards) (Qal B L c.blocks.toNat), max (Qcs L) (B.next - 1), (Qg c d).1.seq, (Qg c d).2⟩ by unfold QaP winL; rw [hb, hL]]
                 exact RM.i0
   ·refine Br.yes (Decidable.byContradiction fun q => h3 ?_) ?_
    ·by_cases g : (d.zones.length : Int) = c.zones
     ·by_cases g2 : d.size = c.size
      ·exact ⟨g, g2⟩
      ·exact absurd (by rw [bne_iff_ne.2 g2]; simp) q
     ·exact absurd (by rw [bne_iff_ne.2 g]; simp) q
    ·refine Go0 ?_
     have e : QH c d = 11 := by unfold QH; rw [if_pos h1, if_pos h2, if_neg h3]
     rw [hno e (by decide), e]
     exact RM.i0
  ·refine Br.yes (by simpa using h2) (Go0 ?_)
   have e : QH c d = check d := by unfold QH; rw [if_pos h1, if_neg h2]
   rw [hno e h2, e]
   exact RM.i0
 ·refine Br.yes (by simpa using h1) (Go0 ?_)
  have e : QH c d = Qn c := if_neg h1
  rw [hno e h1, e]
  exact RM.i0
theorem Qgz : HB 10 := hB Tryz.func10
theorem gset {l : List Zone} {i k : Nat} {z : Zone} (h : k ≠ i) : (l.set i z).getD k default = l.getD k default := by
 simp only [List.getD]
 rw [List.getElem?_set_ne (Ne.symm h)]
theorem Qr9 {x : Dev} {z : Int} {k : Nat} (h : (k : Int) ≠ z) : ((QaL x z).zones.getD k default).sectors = (x.zones.getD k default).sectors := by
 unfold QaL
 split
 ·rename_i q
  have := (Qac q).2
  show ((x.zones.set z.toNat zone0).getD k default).sectors = _
  rw [gset (by omega)]
 ·rfl
theorem finish_sec {x : Dev} {z : Int} {k : Nat} : ((Qaq x z).zones.getD k default).sectors = (x.zones.getD k default).sectors := by
 unfold Qaq
 split
 ·rename_i q
  have hz := (Qac q).2
  show ((x.zones.set z.toNat _).getD k default).sectors = _
  by_cases c : k = z.toNat
  ·subst c
   rw [show (x.zones.set z.toNat (QbI (x.zones.getD z.toNat default))).getD z.toNat default = QbI (x.zones.getD z.toNat default) by simp only [List.getD]; rw [List.getElem?_set_self (by omega)]; rfl]
   unfold QbI
   split <;> rfl
  ·rw [gset c]
 ·rfl
theorem Qf3 {x : Dev} {z : Int} {s : ByteArray} {k : Nat} : ((Qy x z s).zones.getD k default).sectors = if QV x z s = 0 ∧ (k : Int) = z then (x.zones.getD k default).sectors ++ [s] else (x.zones.getD k default).sectors := by
 unfold Qy
 by_cases h : QV x z s = 0
 ·rw [if_pos h]
  have hz := (Qac (Qex h).1).2
  have hl := Qff x z.toNat
  have hg := Qd3 x z.toNat
  show (((openL x z.toNat).set z.toNat _).getD k default).sectors = _
  by_cases c : k = z.toNat
  ·subst c
   rw [if_pos ⟨h, by omega⟩]
   rw [show ((openL x z.toNat).set z.toNat (grow ((openL x z.toNat).getD z.toNat default) x.size s)).getD z.toNat default = grow ((openL x z.toNat).getD z.toNat default) x.size s by simp only [List.getD]; rw [List.getElem?_set_self (by omega)]; rfl]
   rw [← hg z.toNat]
   unfold grow
   split <;> rfl
  ·rw [if_neg (by omega), gset c, hg]
 ·rw [if_neg h, if_neg fun q => h q.1]
theorem QqI (x : Dev) (z : Int) : (QaL x z).size = x.size := by unfold QaL; split <;> rfl
theorem Qou (x : Dev) (z : Int) : (Qaq x z).size = x.size := by unfold Qaq; split <;> rfl
theorem Qh3 (x : Dev) (z : Int) (s : ByteArray) : (Qy x z s).size = x.size := by unfold Qy; split <;> rfl
theorem _root_.Go.Am.Dev.ok.tiny {d : Dev} (h : d.ok) : d.tiny := by
 have hc := confOk_iff.1 h.conf
 refine ⟨by have := hc.n.2; omega, fun i => ?_⟩
 by_cases hi : i < d.zones.length
 ·have := (h.all.get hi).len
  have := hc.size.2
  omega
 ·rw [show d.zones.getD i default = default by simp [List.getD, Nat.le_of_not_lt hi]]
  exact Nat.zero_le _
structure Kept (first : Int) (x0 x : Dev) : Prop where
 ok : x.ok
 n : x.zones.length = x0.zones.length
 size : x.size = x0.size
 sec : ∀ k : Nat, first ≤ k → (x.zones.getD k default).sectors = (x0.zones.getD k default).sectors
theorem Kept.reset {first : Int} {x0 x : Dev} (h : Kept first x0 x) {z : Int} (hz : z < first) : Kept first x0 (QaL x z) :=
 ⟨QnY h.ok z, (Qk8 x z).trans h.n, (QqI x z).trans h.size, fun k hk => (Qr9 (by omega)).trans (h.sec k hk)⟩
theorem Kept.finish {first : Int} {x0 x : Dev} (h : Kept first x0 x) (z : Int) : Kept first x0 (Qaq x z) :=
 ⟨Qk4 h.ok z, (Qjc x z).trans h.n, (Qou x z).trans h.size, fun k hk => finish_sec.trans (h.sec k hk)⟩
theorem Kept.append {first : Int} {x0 x : Dev} (h : Kept first x0 x) {z : Int} (hz : z < first) (s : ByteArray) : Kept first x0 (Qy x z s) :=
 ⟨Qde h.ok z s, (Qf8 x z s).trans h.n, (Qh3 x z s).trans h.size, fun k hk => by rw [Qf3, if_neg (by omega)]; exact h.sec k hk⟩
theorem Qej {a b a' b' : ByteArray} (h : a ++ b = a' ++ b') (hs : a.size = a'.size) : a = a' ∧ b = b' := by
 have e := congrArg (fun x => x.data.toList) h
 simp only [ByteArray.data_append, Array.toList_append] at e
 obtain ⟨e1, e2⟩ := List.append_inj e (by simpa using hs)
 exact ⟨ByteArray.ext (Array.ext' e1), ByteArray.ext (Array.ext' e2)⟩
theorem Qil {n : Int} (h0 : 0 ≤ n) {i : Nat} (hi : i < 8) : putB n i = n / 2 ^ (8 * i) % 256 := by
 unfold putB
 have e1 : IntKind.i64.wrap (8 * (i : Int)) = 8 * (i : Int) := Qa _ (by omega) (by omega)
 have e2 : IntKind.u64.wrap (8 * (i : Int)) = 8 * (i : Int) := by rw [IntKind.wrap_u64]; omega
 have e3 : min (8 * (i : Int)).toNat IntKind.i64.bits = 8 * i := by
  show min (8 * (i : Int)).toNat 64 = 8 * i
  omega
 rw [e1, e2, e3, Int.fdiv_eq_ediv_of_nonneg _ (by exact Int.le_of_lt (Int.pow_pos (by decide)))]
 rw [IntKind.wrap_u8]
theorem Qkl {n : Int} {k i : Nat} (hi : i < k) : (putS n k).data.toList[i]? = some (QcW (.int .u8 (putB n i))) := by
 unfold putS QP
 simp [hi]
theorem Qja {n : Int} (h0 : 0 ≤ n) {i : Nat} (hi : i < 8) : 0 ≤ putB n i ∧ putB n i < 256 := by
 rw [Qil h0 hi]; omega
theorem Qr8 {a b : Int} (ha : 0 ≤ a ∧ a < 256) (hb : 0 ≤ b ∧ b < 256) (h : QcW (.int .u8 a) = QcW (.int .u8 b)) : a = b := by
 unfold QcW at h
 have h2 := congrArg UInt8.toNat h
 simp at h2
 omega
theorem Qr2 {n m : Int} (hn : 0 ≤ n ∧ n ≤ 4294967295) (hm : 0 ≤ m ∧ m ≤ 4294967295) (h : putS n 4 = putS m 4) : n = m := by
 have key : ∀ i, i < 4 → putB n i = putB m i := fun i hi => by
  have e1 := Qkl (n := n) (k := 4) hi
  have e2 := Qkl (n := m) (k := 4) hi
  rw [h, e2, Option.some.injEq] at e1
  exact (Qr8 (Qja hm.1 (by omega)) (Qja hn.1 (by omega)) e1).symm
 have k0 := key 0 (by decide)
 have k1 := key 1 (by decide)
 have k2 := key 2 (by decide)
 have k3 := key 3 (by decide)
 rw [Qil hn.1 (by decide), Qil hm.1 (by decide)] at k0 k1 k2 k3
 simp only [show (8 * 0 : Nat) = 0 from rfl, show (8 * 1 : Nat) = 8 from rfl, show (8 * 2 : Nat) = 16 from rfl, show (8 * 3 : Nat) = 24 from rfl, show (2 : Int) ^ 0 = 1 from rfl, show (2 : Int) ^ 8 = 256 from rfl, show (2 : Int) ^ 16 = 65536 from rfl, show (2 : Int) ^ 24 = 16777216 from rfl] at k0 k1 k2 k3
 omega
theorem Qrc {r q : Rec} (hr : QC r = 0) (hq : QC q = 0) (h : encR r = encR q) : r.block = q.block := by
 unfold encR at h
 rw [if_pos hr, if_pos hq] at h
 obtain ⟨-, a, a2⟩ := QaR hr
 obtain ⟨-, b, b2⟩ := QaR hq
 have pad : ∀ b : ByteArray, b.size ≤ 20 → (padS b).size = 20 := fun b hb => by
  unfold padS
  split
  ·rw [ByteArray.size_append, Qbf]; omega
  ·omega
 have h1 := (Qej h (by unfold QaJ; simp only [ByteArray.size_append, Qp, pad _ a2, pad _ b2])).1
 unfold QaJ at h1
 have h2 := (Qej h1 (by simp [ByteArray.size_append, Qp])).1
 have h3 := (Qej h2 (by simp [ByteArray.size_append, Qp])).1
 have h4 := (Qej h3 (by simp [ByteArray.size_append, Qp])).1
 have h5 := (Qej h4 (by simp [ByteArray.size_append, Qp])).1
 have h6 := (Qej h5 (by simp [ByteArray.size_append, Qp])).2
 exact Qr2 ⟨a.1, a.2.1⟩ ⟨b.1, b.2.1⟩ h6
def Qgg (n : Int) (s : ByteArray) : Prop := (decR s).block < n
theorem Qsa {r : Rec} {n : Int} (h : r.block < n) (hn : 0 < n) : Qgg n (encR r) := by
 unfold Qgg decR
 split
 ·rename_i q
  unfold decE at q
  split at q
  ·split at q
   ·split at q
    ·rename_i w
     by_cases hc : QC r = 0
     ·rw [Qrc w.1 hc w.2]; exact h
     ·rename_i s0 _
      rw [show encR r = ByteArray.empty from if_neg hc] at s0
      exact absurd s0 (by decide)
    ·cases q
   ·cases q
  ·cases q
 ·exact hn
theorem Qor {n : Int} (hn : 0 < n) : Qgg n ByteArray.empty := by
 unfold Qgg decR
 rw [if_neg (by decide)]
 exact hn
theorem Qih {l : List Ent} {n : Int} : ∀ {k}, QX l n k = 0 → ∀ i : Nat, i < k → (i : Int) ≤ (l.getD i default).block
 | 0, _, i, hi => absurd hi (Nat.not_lt_zero _)
 | k + 1, h, i, hi => by
  have h' := h
  simp only [QX] at h'
  split at h'
  ·rename_i h1
   split at h'
   ·rename_i h2
    split at h'
    ·cases h'
    ·rename_i h3
     rcases Nat.lt_succ_iff_lt_or_eq.1 hi with q | rfl
     ·exact Qih h1 i q
     ·by_cases h0 : i = 0
      ·subst h0
       have := Qg0 h2
       omega
      ·have := Qih h1 (i - 1) (by omega)
       omega
   ·rename_i h2; exact absurd h' h2
  ·rename_i h1; exact absurd h' h1
theorem QrO {seq next cut n : Int} {l : List Ent} (h : ∀ e ∈ l, e.block < n) (hn : 0 ≤ n) : ((Qa4 seq next cut l).length : Int) ≤ n + 2 := by
 unfold Qa4
 split
 ·rename_i q
  obtain ⟨-, -, h3⟩ := Qc3 q
  have hl : (l.length : Int) ≤ n := by
   by_cases c : l.length = 0
   ·omega
   ·have h4 := Qih h3 (l.length - 1) (by omega)
    have h5 := h (l.getD (l.length - 1) default) (by
     rw [show l.getD (l.length - 1) default = l[l.length - 1] by simp [List.getD, show l.length - 1 < l.length by omega]]
     exact List.getElem_mem _)
    omega
  unfold QbN
  simp only [List.length_append, List.length_cons, List.length_map, List.length_nil]
  omega
 ·simp; omega
theorem Quh {l : List Ent} {x e : Ent} (h : e ∈ insE l x) : e ∈ l ∨ e = x := by
 unfold insE at h
 rw [List.mem_append, List.mem_cons] at h
 rcases h with h | h | h
 ·exact .inl (List.mem_of_mem_take h)
 ·exact .inr h
 ·exact .inl (List.mem_of_mem_drop h)
theorem Qt3 {m : List (List Ent)} {e : Ent} (h : e ∈ allS m) : ∃ l ∈ m, e ∈ l := by
 unfold allS at h
 split at h
 ·unfold allM at h
  have key : ∀ (r acc : List Ent), e ∈ r.foldl insE acc → e ∈ acc ∨ e ∈ r := by
   intro r
   induction r with
   | nil => intro acc h; exact .inl h
   | cons x r ih =>
    intro acc h
    rcases ih _ h with h | h
    ·rcases Quh h with h | h
     ·exact .inl h
     ·exact .inr (by rw [h]; exact List.mem_cons_self ..)
    ·exact .inr (List.mem_cons_of_mem _ h)
  rcases key _ _ h with h | h
  ·cases h
  ·obtain ⟨l, hl, he⟩ := List.mem_flatten.1 h
   exact ⟨l, hl, he⟩
 ·cases h
def AllE (p : Ent → Prop) (m : List (List Ent)) : Prop := ∀ l ∈ m, ∀ e ∈ l, p e
theorem AllE.get {p : Ent → Prop} {m : List (List Ent)} (h : AllE p m) (i : Nat) : ∀ e ∈ m.getD i default, p e := by
 by_cases c : i < m.length
 ·rw [show m.getD i default = m[i] by simp [List.getD, c]]
  exact h _ (List.getElem_mem c)
 ·rw [show m.getD i default = [] by simp [List.getD, Nat.le_of_not_lt c]; rfl]
  exact fun e he => by cases he
theorem AllE.set {p : Ent → Prop} {m : List (List Ent)} (h : AllE p m) (i : Nat) {l : List Ent} (hl : ∀ e ∈ l, p e) : AllE p (m.set i l) := fun l' hl' => by
 rcases List.mem_or_eq_of_mem_set hl' with q | q
 ·exact h l' q
 ·rw [q]; exact hl
theorem AllE.all {p : Ent → Prop} {m : List (List Ent)} (h : AllE p m) : ∀ e ∈ allS m, p e := fun e he => by
 obtain ⟨l, hl, h2⟩ := Qt3 he
 exact h l hl e h2
theorem QtM {l : List Ent} {x e : Ent} (h : e ∈ putE l x) : e ∈ l ∨ e = x := by
 unfold putE at h
 rw [List.mem_append, List.mem_cons] at h
 rcases h with h | h | h
 ·exact .inl (List.mem_of_mem_take h)
 ·exact .inr h
 ·exact .inl (List.mem_of_mem_drop h)
theorem AllE.inst {p : Ent → Prop} {m : List (List Ent)} (h : AllE p m) {x : Ent} (hx : p x) : AllE p (Qaz m x).1 := by
 unfold Qaz
 split
 ·split
  ·refine h.set _ fun e he => ?_
   unfold QI at he
   split at he
   ·split at he
    ·split at he
     ·exact h.get _ e he
     ·rcases QtM he with q | q
      ·exact h.get _ e q
      ·rw [q]; exact hx
    ·exact h.get _ e he
   ·cases he
  ·exact h
 ·exact h
theorem AllE.find {p : Ent → Prop} {m : List (List Ent)} (h : AllE p m) {b : Int} (hf : (Qbi m b).2 = true) : p (Qbi m b).1 ∧ (Qbi m b).1.block = b := by
 unfold Qbi at hf ⊢
 split at hf
 ·rename_i q
  rw [if_pos q]
  unfold QR at hf ⊢
  split at hf
  ·rename_i w
   rw [if_pos w]
   have hh := w.2
   have hlt : Qr (m.getD (Ql m b) default) b < (m.getD (Ql m b) default).length ∧ ((m.getD (Ql m b) default).getD (Qr (m.getD (Ql m b) default) b) default).block = b := by
    unfold hasM at hh
    simpa using hh
   refine ⟨h.get (Ql m b) _ ?_, hlt.2⟩
   have key : ∀ (l : List Ent) (i : Nat), i < l.length → l.getD i default ∈ l := fun l i hi => by
    rw [show l.getD i default = l[i] by simp [List.getD, hi]]
    exact List.getElem_mem hi
   exact key _ _ hlt.1
  ·cases hf
 ·cases hf
theorem AllE.rel {p : Ent → Prop} {m : List (List Ent)} (h : AllE p m) {b v fz fo tz t2 move : Int} (hp : ∀ e, p e → p { e with zone := tz, offset := t2, move := move }) : AllE p (relM m b v fz fo tz t2 move).1 := by
 unfold relM
 split
 ·split
  ·rename_i q w
   refine h.set _ fun e he => ?_
   unfold relE at he w
   split at he
   ·rename_i z
    rw [if_pos z] at w
    split at he
    ·rename_i y
     rcases List.mem_or_eq_of_mem_set he with u | u
     ·exact h.get _ e u
     ·rw [u]
      refine hp _ ?_
      have hf : (Qbi m b).2 = true := by unfold Qbi; rw [if_pos q]; exact y.1
      have := (h.find hf).1
      unfold Qbi at this
      rwa [if_pos q] at this
    ·exact h.get _ e he
   ·cases he
  ·exact h
 ·exact h
theorem Qtc (d : DiceM) (hd : d.ok) : CS 32 [.c (.ptr 0 0)] [.vr d.cells] fun s H => s = .c (.int .i64 d.rest) ∧ H = [.vr d.cells] := by
 have h1 := hd.le
 have h2 := hd.len
 refine CSpec.rm ?_
 refine ov0 hΓ Tryz.func32 14 1 [.tmp 2] Tryz.ntmps32 Tryz.results32 ?_
 refine Dr.mk hΓ hMix (by kernel_rfl) (Go0 ?_)
 have w : IntKind.i64.wrap ((d.l.length : Int) - d.at_) = d.rest := by unfold DiceM.rest; exact Qa _ (by omega) (by omega)
 have e : max 0 d.rest = d.rest := by unfold DiceM.rest; omega
 rw [w, e]
 refine ⟨_, _, ?_, rfl, rfl⟩
 exact RM.w0
theorem QsH : HB 32 := hB Tryz.func32
def QbM (l : List Ent) (k : Nat) : List Ent := (l.take k).filter fun e => e.kind == 1
theorem Qju (l : List Ent) (k : Nat) : (QbM l k).length ≤ l.length := by
 unfold QbM
 have := List.length_filter_le (fun e : Ent => e.kind == 1) (l.take k)
 rw [List.length_take] at this
 omega
theorem QqD {l : List Ent} {k : Nat} (hk : k < l.length) (h : (l.getD k default).kind = 1) : QbM l (k + 1) = QbM l k ++ [l.getD k default] := by
 unfold QbM
 rw [Q6 l hk, List.filter_append]
 simp only [List.filter_cons, List.filter_nil]
 rw [if_pos (by rw [h]; rfl)]
theorem QrX {l : List Ent} {k : Nat} (hk : k < l.length) (h : ¬ (l.getD k default).kind = 1) : QbM l (k + 1) = QbM l k := by
 unfold QbM
 rw [Q6 l hk, List.filter_append]
 simp only [List.filter_cons, List.filter_nil]
 rw [if_neg (by simpa using h), List.append_nil]
theorem Qjm (l : List Ent) : QbM l l.length = l.filter fun e => e.kind == 1 := by unfold QbM; rw [List.take_length]
theorem Qi7 {c : Conf} {k : Nat} (hr : Qbr c = true) (hk : (k : Int) < c.blocks + 2) : 0 ≤ (k : Int).tdiv c.size ∧ (k : Int).tdiv c.size < Qi c := by
 have hcf := confR_iff.1 hr
 unfold Qi
 rw [Int.tdiv_eq_ediv_of_nonneg (by omega), Int.tdiv_eq_ediv_of_nonneg (by omega)]
 refine ⟨Int.ediv_nonneg (by omega) (by omega), ?_⟩
 have h1 : (k : Int) / c.size ≤ (c.blocks + 1) / c.size := Int.ediv_le_ediv (by omega) (by omega)
 have h2 : (c.blocks + 2 + c.size - 1) / c.size = (c.blocks + 1) / c.size + 1 := by
  rw [show c.blocks + 2 + c.size - 1 = c.blocks + 1 + 1 * c.size by omega, Int.add_mul_ediv_right _ _ (by omega)]
 omega
def QcL (x : Dev) (Z : List Int) : Nat → Dev
 | 0 => x
 | k + 1 => QaL (QcL x Z k) (Z.getD k default)
def Qdo (c : Conf) (y : Dev) (Z : List Int) (R : List Rec) : Nat → Dev
 | 0 => y
 | k + 1 => Qy (Qdo c y Z R k) (Z.getD ((k : Int).tdiv c.size).toNat default) (encR (R.getD k default))
def Qb8 (x : Dev) (Z : List Int) : Nat → Dev
 | 0 => x
 | k + 1 => Qaq (Qb8 x Z k) (Z.getD k default)
def Qf9 (m : List (List Ent)) (next seq : Int) : List Rec := Qa4 seq next next ((allS m).filter fun e => e.kind == 1)
def Qe2 (c : Conf) (x : Dev) (m : List (List Ent)) (next seq slot : Int) : Dev :=
 Qb8 (Qdo c (QcL x (Qat c slot) (Qat c slot).length) (Qat c slot) (Qf9 m next seq) (Qf9 m next seq).length) (Qat c slot) (Qat c slot).length
theorem Qip {c : Conf} {slot : Int} (hc : Qn c = 0) (h0 : 0 ≤ slot) (h1 : slot ≤ 1) : (Qat c slot).length = (Qi c).toNat ∧ ∀ k, k < (Qat c slot).length → (Qat c slot).getD k default < 2 * Qi c := by
 have hl : (Qat c slot).length = (Qi c).toNat := by unfold Qat; rw [if_pos ⟨hc, h0, h1⟩]; exact tabL_len _
 refine ⟨hl, fun k hk => ?_⟩
 rw [hl] at hk
 unfold Qat
 rw [if_pos ⟨hc, h0, h1⟩, QkV hk]
 rcases (show slot = 0 ∨ slot = 1 by omega) with rfl | rfl <;> omega
theorem Qdj {first : Int} {x : Dev} {Z : List Int} (hx : x.ok) (hZ : ∀ k, k < Z.length → Z.getD k default < first) : ∀ k, k ≤ Z.length → Kept first x (QcL x Z k)
 | 0, _ => ⟨hx, rfl, rfl, fun _ _ => rfl⟩
 | k + 1, hk => (Qdj hx hZ k (by omega)).reset (hZ k (by omega))
theorem QdI {c : Conf} {first : Int} {x y : Dev} {Z : List Int} {R : List Rec} (hr : Qbr c = true) (hl : Z.length = (Qi c).toNat) (hy : Kept first x y) (hZ : ∀ k, k < Z.length → Z.getD k default < first) (hR : (R.length : Int) ≤ c.blocks + 2) : ∀ k, k ≤ R.length → Kept first x (Qdo c y Z R k)
 | 0, _ => hy
 | k + 1, hk => by
  have := Qi7 (c := c) (k := k) hr (by omega)
  exact (QdI hr hl hy hZ hR k (by omega)).append (hZ _ (by omega)) _
theorem Qgl {first : Int} {x y : Dev} {Z : List Int} (hy : Kept first x y) : ∀ k, Kept first x (Qb8 y Z k)
 | 0 => hy
 | k + 1 => (Qgl hy k).finish _
theorem QkP {c : Conf} {m : List (List Ent)} {next seq : Int} (hc : Qn c = 0) (hb : ∀ e ∈ allS m, e.block < c.blocks) : ((Qf9 m next seq).length : Int) ≤ c.blocks + 2 :=
 QrO (fun e he => hb e (List.mem_filter.1 he).1) (by have := confR_iff.1 (Qay hc).1; omega)
theorem QrM {c : Conf} {x : Dev} {m : List (List Ent)} {next seq slot : Int} (hc : Qn c = 0) (hx : x.ok) (hb : ∀ e ∈ allS m, e.block < c.blocks) (h0 : 0 ≤ slot) (h1 : slot ≤ 1) : Kept (2 * Qi c) x (Qe2 c x m next seq slot) := by
 obtain ⟨z1, z2⟩ := Qip hc h0 h1
 exact Qgl (QdI (Qay hc).1 z1 (Qdj hx z2 _ (Nat.le_refl _)) z2 (QkP hc hb) _ (Nat.le_refl _)) _
end Go.Proofs
end
