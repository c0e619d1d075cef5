/- Contracts, lemmas; no condition. -/
import Derived.Test.YtmollgldghpbkaaGreatGFV
import Derived.Test.YtmollgldghpbkaaGreatStAV
import Derived.Test.YtmollgldghpbkaaGreatAmFV
import Derived.Test.YtmollgldghpbkaaGreatGCV
import Derived.Test.YtmollgldghpbkaaGreatCtBV
import Derived.Test.YtmollgldghpbkaaGreatA38V
set_option linter.all false
section
open Go Go.Am
namespace Go.Proofs
set_option maxRecDepth 20000
theorem Qr6 (n : Int) (hn : 0 ≤ n ∧ n < 65536) : PS 207 [.c (.int .i64 n), .c (.int .i64 2)] (.t [.inl (.str (putS n 2)), .inl (.int .i64 0)]) := by
 refine PSpec.rm ?_
 refine ov0 hΓ Tryz.func207 44 0 [.tmp 4, .tmp 5] Tryz.ntmps207 Tryz.results207 ?_
 have e : IntKind.i64.wrap (1 * 2 ^ min (IntKind.u64.wrap (IntKind.i64.wrap (8 * 2))).toNat IntKind.i64.bits) = 65536 := by decide
 refine Br.no (by rw [e]; simp; omega) (Go0 ?_)
 refine Lp.mk hΓ (ι := Nat) (fun k => [(7, .c (.int .i64 k)), (6, .c (.sl 0 1 2 2 true)), (0, .c (.int .i64 n)), (1, .c (.int .i64 2))]) (fun k => [.arr 5 1 2 (putG n k)]) (fun k => k ≤ 2) (fun k => 2 - k) 0 (Nat.zero_le _) ?_ ?_
 ·exact Mv.mk' 1 rfl ⟨O.wk.arr rfl (fun i hi j hj => by
   have hj : j < 1 := hj
   have : j = 0 := by omega
   subst this
   exact wkC.imm rfl), trivial⟩ ⟨wkS.imm rfl, wkS.c (wkC.sl (by decide) rfl rfl (fun _ => rfl)), wkS.imm rfl, wkS.imm rfl, trivial⟩ (Nat.zero_le _)
 ·intro k hk
  refine Go0 ?_
  refine Br.of (fun h=>Go0 ?_) (fun h=>Go0 ?_)
  ·refine Need.mk (by rw [IntKind.wrap_u64]; omega) (Go0 ?_)
   have w0 := Qa (↑k + 1) om om
   refine ⟨k + 1, om, om, Mv.mk' 1 rfl ⟨O.wk.arr rfl (fun i hi j hj => wkC.of_eq (Qgo _ _ _ _) ?_), trivial⟩ ⟨wkS.c (wkC.int (by rw [w0]; rfl)), wkS.c (wkC.sl (by decide) rfl rfl (fun e => e)), wkS.imm rfl, wkS.imm rfl, trivial⟩ (Nat.zero_le _)⟩
   have hj : j = 0 := by omega
   subst hj
   rw [Qcb]
   simp only [putG, putB, Int.toNat_natCast]
   by_cases c : i = k
   ·subst c
    simp
   ·rw [if_neg (by simp [c])]
    by_cases c2 : i < k
    ·rw [if_pos c2, if_pos om]
    ·rw [if_neg c2, if_neg om]
  ·have : k = 2 := by omega
   subst this
   refine Need.mk (fun i hi => ⟨putB n i, by simp only [putG]; rw [if_pos hi]⟩) (Go0 ?_)
   exact RM.imm rfl (wkS.t ⟨wkC.str (Qgs n 2), wkC.imm rfl, trivial⟩)
theorem QsJ : HB 207 := Qfu
theorem Qhy (n : Int) (hn : 0 ≤ n ∧ n < 65536) : PS 179 [.c (.int .i64 n), .c (.int .i64 2)] (.c (.str (putS n 2))) := by
 refine ov hΓ Tryz.func179 14 0 [.tmp 4] Tryz.ntmps179 Tryz.results179 ?_
 conv=>whnf
 refine CallN.pure QsJ (Qr6 n hn ) (leA.refl rfl) rfl ?_
 ((conv=>whnf);(repeat' ((first|refine Nd ?_|refine Hv fun _h=>?_);conv=>whnf)))
theorem QhI : HB 179 := hB Tryz.func179
theorem QnE (n : Int) (hn : 0 ≤ n ∧ n < 4294967296) : PS 179 [.c (.int .i64 n), .c (.int .i64 4)] (.c (.str (putS n 4))) := by
 refine ov hΓ Tryz.func179 14 0 [.tmp 4] Tryz.ntmps179 Tryz.results179 ?_
 conv=>whnf
 refine CallN.pure Qhs (Qhk n hn ) (leA.refl rfl) rfl ?_
 ((conv=>whnf);(repeat' ((first|refine Nd ?_|refine Hv fun _h=>?_);conv=>whnf)))
theorem QnX : HB 179 := hB Tryz.func179
theorem QhC (n : Int) (hn : 0 ≤ n ∧ n < 281474976710656) : PS 179 [.c (.int .i64 n), .c (.int .i64 6)] (.c (.str (putS n 6))) := by
 refine ov hΓ Tryz.func179 14 0 [.tmp 4] Tryz.ntmps179 Tryz.results179 ?_
 conv=>whnf
 refine CallN.pure Qhr (QhF n hn ) (leA.refl rfl) rfl ?_
 ((conv=>whnf);(repeat' ((first|refine Nd ?_|refine Hv fun _h=>?_);conv=>whnf)))
theorem Qhv : HB 179 := hB Tryz.func179
theorem Qm9 (e : Ent) (n : Int) : PS 222 [.a e.cells, .c (.int .i64 n)] (.c (.int .i64 (Qbw e n))) := by
 refine PSpec.rm ?_
 refine ov0 hΓ Tryz.func222 63 0 [.tmp 4] Tryz.ntmps222 Tryz.results222 ?_
 by_cases h1 : e.kind = 1
 ·refine Br.no (by simpa using h1) (Go0 ?_)
  by_cases h2 : 0 ≤ e.block ∧ e.block < 128 ∧ 1 ≤ e.version ∧ e.version < n ∧ 0 ≤ e.move ∧ e.move ≤ 255 ∧ 0 ≤ e.zone ∧ e.zone < 32 ∧ 0 ≤ e.offset ∧ e.offset < 64
  ·refine Br.no (Bool.eq_false_iff.2 fun z => by simp at z; omega) (Go0 ?_)
   rw [show Qbw e n = 0 by unfold Qbw; rw [if_pos h1, if_pos h2]]
   exact RM.i0
  ·refine Br.yes (Decidable.byContradiction fun z => h2 (by simp at z; omega)) (Go0 ?_)
   rw [show Qbw e n = 1 by unfold Qbw; rw [if_pos h1, if_neg h2]]
   exact RM.i0
 ·refine Br.yes (by simpa using h1) (Go0 ?_)
  rw [show Qbw e n = 3 by unfold Qbw; rw [if_neg h1]]
  exact RM.i0
theorem Qmw : HB 222 := hB Tryz.func222
theorem QgV {l : List Ent} {n : Int} {k : Nat} (h : Qax l n k ≠ 0) : ∀ d, Qax l n (k + d) = Qax l n k
 | 0 => rfl
 | d + 1 => by
  have h1 := QgV h d
  show Qax l n ((k + d) + 1) = _
  simp only [Qax]
  rw [h1, if_neg h]
theorem QhV {l : List Ent} {n : Int} {k : Nat} {v : Int} (hk : k < l.length) (h : Qax l n (k + 1) = v) (hv : v ≠ 0) : Qax l n l.length = v := by
 have := QgV (l := l) (n := n) (k := k + 1) (by rw [h]; exact hv) (l.length - (k + 1))
 rw [show k + 1 + (l.length - (k + 1)) = l.length by omega, h] at this
 exact this
def Qh8 (seq next cut : Int) (l : List Ent) : List C := [.int .i64 seq, .int .i64 next, .int .i64 cut, Qaw l]
set_option maxHeartbeats 1000000 in
theorem QmX (seq next cut : Int) (l : List Ent) (hl : l.length ≤ 1000000) : PS 178 [.a (Qh8 seq next cut l)] (.c (.int .i64 (QbA seq next cut l))) := by
 refine PSpec.rm ?_
 refine ov0 hΓ Tryz.func178 75 0 [.tmp 2] Tryz.ntmps178 Tryz.results178 ?_
 by_cases h1 : 1 ≤ seq ∧ seq < 1099511627776 ∧ 1 ≤ next ∧ next ≤ 1099511627776 ∧ 1 ≤ cut ∧ cut ≤ next
 ·refine Br.no (Bool.eq_false_iff.2 fun z => by simp at z; omega) (Go1 fun _h=>?_)
  by_cases h2 : 128 < l.length
  ·refine Br.yes (by simpa using (by omega : (128 : Int) < l.length)) (Go0 ?_)
   rw [show QbA seq next cut l = 19 by unfold QbA; rw [if_pos h1, if_pos h2]]
   exact RM.i0
  ·refine Br.no (by simpa using (by omega : (l.length : Int) ≤ 128)) (Go0 ?_)
   have he : QbA seq next cut l = Qax l next l.length := by unfold QbA; rw [if_pos h1, if_neg h2]
   rw [he]
   refine Lp.mkK hΓ (ι := Nat) [1] (fun k => [(3, .c (.int .i64 k))]) (fun k => [.vr (Qh8 seq next cut l)]) (fun k => k ≤ l.length ∧ Qax l next k = 0) (fun k => l.length - k) 0 ⟨Nat.zero_le _, rfl⟩ ?_ ?_
   ·exact Mv.k0
   ·rintro k ⟨hk, hk2⟩
    refine Go1 fun _h=>?_
    refine Br.of (fun h3=>Go0 ?_) (fun h3=>Go0 ?_)
    ·have w0 := Qa (↑k + 1) om om
     have w1 : IntKind.i64.wrap (↑k - 1) = ↑k - 1 := Qa _ om om
     refine Dr.mk hΓ hMix (by kernel_rfl) (Go0 ?_)
     refine CallP.auto Qmw (Qm9 (l.getD k default) next ) (Go0 ?_)
     have e1 : Qax l next (k + 1) = if Qbw (l.getD k default) next = 0 then if 0 < k ∧ (l.getD k default).block ≤ (l.getD (k - 1) default).block then 17 else 0 else Qbw (l.getD k default) next := by
      simp only [Qax]; rw [if_pos hk2]
     by_cases h4 : Qbw (l.getD k default) next = 0
     ·refine Br.no (by simpa using h4) (Go0 ?_)
      refine Dr.mk hΓ hMix (by kernel_rfl) (Go0 ?_)
      by_cases h5 : 0 < k ∧ (l.getD k default).block ≤ (l.getD (k - 1) default).block
      ·refine Br.yes (by rw [decide_eq_true om, w1, Int.toNat_natCast, show ((k : Int) - 1).toNat = k - 1 by omega]; exact decide_eq_true h5.2) (Go0 ?_)
       rw [if_pos h4, if_pos h5] at e1
       rw [QhV om e1 (by decide)]
       exact RM.i0
      ·refine Br.no ?_ ?_
       ·by_cases h6 : 0 < k
        ·rw [decide_eq_true om, w1, Int.toNat_natCast, show ((k : Int) - 1).toNat = k - 1 by omega]
         exact decide_eq_false fun z => h5 ⟨h6, z⟩
        ·rw [decide_eq_false om]; rfl
       ·refine Go0 ?_
        rw [if_pos h4, if_neg h5] at e1
        refine ⟨k + 1, ⟨om, e1⟩, om, ?_⟩
        exact Mv.k0
     ·refine Br.yes (by simpa using h4) (Go0 ?_)
      rw [if_neg h4] at e1
      rw [QhV om e1 h4]
      exact RM.i0
    ·have : k = l.length := by omega
     subst this
     rw [hk2]
     exact RM.i0
 ·refine Br.yes (Decidable.byContradiction fun z => h1 (by simp at z; omega)) (Go0 ?_)
  rw [show QbA seq next cut l = 1 by unfold QbA; rw [if_neg h1]]
  exact RM.i0
theorem Qm1 : HB 178 := hB Tryz.func178
theorem Qe9 (l : List Rec) : ∀ k, (Qa3 l k).size ≤ 36 * k
 | 0 => Nat.zero_le _
 | k + 1 => by
  have h1 := Qe9 l k
  simp only [Qa3]
  split
  ·rw [ByteArray.size_append, ByteArray.size_extract]
   omega
  ·omega
theorem QqT (l : List Rec) (hl : l.length ≤ 1000) : PS 180 [.c (Qib l)] (.c (.str (Qi0 l))) := by
 refine PSpec.rm ?_
 refine ov0 hΓ Tryz.func180 31 0 [.tmp 2] Tryz.ntmps180 Tryz.results180 ?_
 refine Lp.mkK hΓ (ι := Nat) [0, 2] (fun k => [(4, .c (.int .i64 k)), (3, .c (.str (Qa3 l k)))]) (fun k => []) (fun k => k ≤ l.length) (fun k => l.length - k) 0 (Nat.zero_le _) ?_ ?_
 ·exact Mv.k0
 ·intro k hk
  refine Go1 fun _h=>?_
  refine Br.of (fun h1=>Go0 ?_) (fun h1=>Go0 ?_)
  ·have w0 := Qa (↑k + 1) om om
   have hb := Qe9 l k
   refine CallN.pureA QfD (QfB (l.getD k default) ) (Go0 ?_)
   by_cases h2 : Qa0 (l.getD k default) = 0
   ·have hz := Qsf h2
    refine Br.yes (by simpa using h2) (Go0 ?_)
    refine ⟨k + 1, om, om, ?_⟩
    rw [show Qa3 l (k + 1) = Qa3 l k ++ (encR (l.getD k default)).extract 0 36 from if_pos h2]
    exact Mv.k0
   ·refine Br.no (by simpa using h2) (Go0 ?_)
    refine ⟨k + 1, om, om, ?_⟩
    rw [show Qa3 l (k + 1) = Qa3 l k from if_neg h2]
    exact Mv.k0
  ·have : k = l.length := by omega
   subst this
   have hb := Qe9 l l.length
   refine CallN.pureA QgB (QgH (Qa3 l l.length) om ) (Go0 ?_)
   have hu := Qky 0 (Qa3 l l.length)
   have w0 : sumW (Qa3 l l.length) = addU 0 (Qa3 l l.length) := Qa _ om om
   refine CallN.pureA QnX (QnE (sumW (Qa3 l l.length)) (by rw [w0]; omega) ) (Go0 ?_)
   exact RM.i0
theorem Qrl : HB 180 := hB Tryz.func180
theorem Qpt {l : List Rec} {x : Rec} {t : List C} {n i j : Nat} (hn : n = l.length) (hi : i < l.length + 1) (hj : j < 5) : appG (recG l) n (QaC 5 (C.int .i64 x.kind :: C.int .i64 x.block :: C.int .i64 x.version :: C.int .i64 x.move :: C.str x.payload :: t)) i j = recG (l ++ [x]) i j :=
 Qb8 (f := QdN) hn (fun j hj => by
  match j, hj with
  | 0, _ => rfl
  | 1, _ => rfl
  | 2, _ => rfl
  | 3, _ => rfl
  | 4, _ => rfl) hi hj
theorem QsT {seq next cut : Int} {l : List Ent} (h : QbA seq next cut l = 0) : (1 ≤ seq ∧ seq < 1099511627776 ∧ 1 ≤ next ∧ next ≤ 1099511627776 ∧ 1 ≤ cut ∧ cut ≤ next) ∧ l.length ≤ 128 ∧ Qax l next l.length = 0 := by
 unfold QbA at h
 split at h
 ·rename_i h1
  split at h
  ·cases h
  ·exact ⟨h1, om, h⟩
 ·cases h
theorem QgY {l : List Ent} {n : Int} : ∀ {k}, Qax l n k = 0 → ∀ i, i < k → Qbw (l.getD i default) n = 0
 | 0, _ => fun i hi => absurd hi (Nat.not_lt_zero _)
 | k + 1, h => by
  simp only [Qax] at h
  split at h
  ·rename_i h1
   split at h
   ·rename_i h2
    exact QD (QgY h1) h2
   ·rename_i h2; exact absurd h h2
  ·rename_i h1; exact absurd h h1
theorem QrY {e : Ent} {n : Int} (h : Qbw e n = 0) : e.kind = 1 ∧ 0 ≤ e.block ∧ e.block < 128 ∧ 1 ≤ e.version ∧ e.version < n ∧ 0 ≤ e.move ∧ e.move ≤ 255 ∧ 0 ≤ e.zone ∧ e.zone < 32 ∧ 0 ≤ e.offset ∧ e.offset < 64 := by
 unfold Qbw at h
 split at h
 ·rename_i h1
  split at h
  ·rename_i h2; exact ⟨h1, h2⟩
  ·cases h
 ·cases h
theorem QnZ (l : List Rec) (n : Nat) (hn : n = l.length) (hl : n ≤ 1000) : CS 180 [.c (.sl 0 5 n n false)] [.arr 178 5 n (recG l)] fun s H => s = .c (.str (Qi0 l)) ∧ H = [.arr 178 5 n (recG l)] := by
 subst hn
 exact CSpec.reads (QqT l hl) (BwA.cons (BwS.c (Bw.sl rfl rfl (fun i _ j _ => Bw.same (Qcr _ _)) (fun e => by cases e))) BwA.nil) rfl ⟨rfl, rfl⟩
theorem Qon : HB 180 := Qrl
set_option maxHeartbeats 4000000 in
theorem QlS (seq next cut : Int) (l : List Ent) (hl : l.length ≤ 500) : PS 106 [.a (Qh8 seq next cut l)] (.t [.inl (Qib (Qet seq next cut l)), .inl (.int .i64 (QbA seq next cut l))]) := by
 refine PSpec.rm ?_
 refine ov0 hΓ Tryz.func106 67 0 [.tmp 2, .tmp 3] Tryz.ntmps106 Tryz.results106 ?_
 refine CallN.pureA Qm1 (QmX seq next cut l om ) (Go0 ?_)
 by_cases h0 : QbA seq next cut l = 0
 ·refine Br.no (by simpa using h0) (Go1 fun _h=>?_)
  obtain ⟨h1, h2, h3⟩ := QsT h0
  have p1 := Qar next 6
  have p2 := Qar cut 6
  refine Dr.mk hΓ hMix (by kernel_rfl) (Go0 ?_)
  refine CallP.auto Qhv (QhC next om ) (Go0 ?_)
  refine CallP.auto Qhv (QhC cut om ) (Go0 ?_)
  refine Lp.mkK hΓ (ι := Nat) [1, 2, 3, 5] (fun k => [(6, .c (.sl 1 5 (k + 1) (k + 1) false)), (7, .c (.int .i64 k))]) (fun k => [.vr (Qh8 seq next cut l), .arr 178 5 (k + 1) (recG (Qie seq next cut l :: (l.take k).map QhT))]) (fun k => k ≤ l.length) (fun k => l.length - k) 0 (Nat.zero_le _) ?_ ?_
  ·refine Mv.k2 ?_ ?_
   ·intro i hi j hj
    refine WC.eq ?_ (Qcr _ _)
    have : i = 0 := by omega
    subst this
    match j, hj with
    | 0, _ => rfl
    | 1, _ => rfl
    | 2, _ => rfl
    | 3, _ => rfl
    | 4, _ => rfl
   ·exact WC.slA (hx := fun e => by cases e)
  ·intro k hk
   have hlk : (Qie seq next cut l :: (l.take k).map QhT).length = k + 1 := by simp; omega
   refine Go0 ?_
   refine Br.of (fun h4=>Go0 ?_) (fun h4=>Go0 ?_)
   ·have he := QrY (QgY h3 k om)
    have w0 := Qa (↑k + 1) om om
    have p3 := Qar (l.getD k default).zone 2
    have p4 := Qar (l.getD k default).offset 2
    refine Dr.mkE hΓ hMix [4294967296] [] (by kernel_rfl) (Go0 ?_)
    refine CallP.auto QhI (Qhy (l.getD k default).zone om ) (Go0 ?_)
    refine CallP.auto QhI (Qhy (l.getD k default).offset om ) (Go0 ?_)
    refine ⟨k + 1, om, om, ?_⟩
    refine Mv.k1 ?_
    ·intro i hi j hj
     refine WC.eq ((Qpt (x := QhT (l.getD k default)) hlk.symm (by rw [hlk]; exact hi) hj).trans ?_) ?_
     ·rw [QaJ l om, List.map_append]; rfl
     ·exact Qcr _ _
   ·have : k = l.length := by omega
    subst this
    rw [List.take_length] at *
    refine Dr.mkE hΓ hMix [4294967296, 180] [(0, 5), (1, 5), (2, 5), (3, 5)] (by kernel_rfl) (Go0 ?_)
    refine CallE.autoI [1] Qon (QnZ (Qie seq next cut l :: List.map QhT l) (l.length + 1) hlk.symm om) plh (Go0 ?_)
    rw [h0, show Qet seq next cut l = Qfc seq next cut l ++ [⟨6, l.length, seq, 0, Qi0 (Qfc seq next cut l)⟩] from if_pos h0]
    exact RM.allT (FwT.consC (Fw.slP rfl rfl (by simp [Qfc]) (fun i hi j hj => Qpt (x := ⟨6, l.length, seq, 0, Qi0 (Qfc seq next cut l)⟩) hlk.symm (by rw [hlk]; exact hi) hj) (fun i j => Qcr _ _)) (FwT.consC (Fw.same rfl) FwT.nil))
 ·refine Br.yes (by simpa using h0) (Go0 ?_)
  rw [show Qet seq next cut l = [] from if_neg h0]
  exact RM.i0
theorem Qmb : HB 106 := hB Tryz.func106
theorem WC.fz2I {ρ : Nat → Nat} {n : Nat} {id m id2 m2 : Nat} {g g2 : Nat → Nat → C} {c : C} (h : c.imm = true) : WC ρ n (fzC id m g (fzC id2 m2 g2 c)) c := by
 cases c with
 | ptr => cases h
 | ep => cases h
 | sl => cases h
 | mpr => cases h
 | fn f k g =>
  have : k = 0 := Nat.eq_of_beq_eq_true h
  exact ⟨⟨rfl, rfl, fun j hj => by omega⟩⟩
 | _ => exact WC.imm rfl
set_option maxHeartbeats 4000000 in
theorem QqC (c : Conf) (d : Dev) (h : Qw c = 0) : CS 84 [.a c.cells, .a d.cells] [] fun x H => x = .a ((QeL c d).cellsK 0) ∧ H = [(QeL c d).wobj] := by
 refine CSpec.rm ?_
 have hr := (Qv h).1
 have hq := confR_iff.1 hr
 have hs := Qae hr
 have hd := QcP hr
 have hd2 := (Qv h).2.1
 have hdz : Qq c = c.zones - 2 * Qo c := rfl
 refine ov0 hΓ Tryz.func84 95 0 [.cell 4 58] Tryz.ntmps84 Tryz.results84 ?_
 refine CallN.pureA QjY (Qkb c h ) (Go0 ?_)
 refine CallN.pureA QsD (Qts c.shards om om ) (Go0 ?_)
 refine CallN.pureA QqF (Qrg c.zones om om ) (Go0 ?_)
 refine CallN.pureA Qrj (QqA c.shards om om ) (Go0 ?_)
 refine CallN.pureA Qq3 (Qqu c.queues om om ) (Go0 ?_)
 refine Dr.mkL hΓ hMix [] [] 9 11 (by kernel_rfl) (Go0 ?_)
 refine Lp.mkK hΓ (ι := Nat) [2, 4, 5, 15] (fun k => [(16, .c (.int .i64 k))]) (fun k => [.vr c.cells, .vr d.cells, .vr (default : St).cells, .vr (Lay.cells c), .vr [QH (QE c).map], .vr [Qi (QE c).live, Qi (QE c).pend], .vr [Qi (QE c).owner], .vr [.int .i64 0, Qi (QE c).pins, retC []], .arr 68 12 c.queues.toNat (wrkG (QE c).works), .vr ((QeL c d).cellsZ .nils (QH (QE c).map) (.sl 10 2 k k false) (.sl 8 12 c.queues.toNat c.queues.toNat false) (evC [])), .arr 98 2 k (rngG (List.replicate k ⟨c.depth, []⟩))]) (fun k => k ≤ c.queues.toNat) (fun k => c.queues.toNat - k) 0 (Nat.zero_le _) ?_ ?_
 ·refine (Mv.reserveO 9 20 98 2 (rngG []) rfl rfl rfl rfl).trans ?_
  refine Mv.k2 ?_ ?_
  ·exact fun i _ j hj => WC.eq (QpC rfl hj) (Qj _ _)
  ·exact WC.slA (hx := fun e => by cases e)
 ·intro q hq2
  refine Go0 ?_
  refine Br.of (fun h4=>Go0 ?_) (fun h4=>Go0 ?_)
  ·refine CallN.pureA Qp1 (Qqb c.depth om om ) (Go0 ?_)
   have w0 := Qa (↑q + 1) om om
   refine ⟨q + 1, om, om, ?_⟩
   refine Mv.k1 ?_
   ·intro i hi j hj
    exact WC.eq ((QpD (x := ⟨c.depth, []⟩) (by simp) (by simpa using hi) hj).trans (by rw [List.replicate_succ'])) (QB _ _)
  ·have : q = c.queues.toNat := by omega
   subst this
   refine Lp.mkK hΓ (ι := Nat) [2, 4, 15] (fun k => [(19, .c (.int .i64 (2 * Qo c + (k : Nat))))]) (fun k => [.vr c.cells, .vr d.cells, .vr (default : St).cells, .vr (Lay.cells c), .vr [QH (QE c).map], .vr [Qi (QE c).live, Qi (QE c).pend], .vr [Qi (QE c).owner], .vr [.int .i64 0, Qi (QE c).pins, retC []], .arr 68 12 c.queues.toNat (wrkG (QE c).works), .vr ((QeL c d).cellsZ (.sl 11 1 k k false) (QH (QE c).map) (.sl 10 2 c.queues.toNat c.queues.toNat false) (.sl 8 12 c.queues.toNat c.queues.toNat false) (evC [])), .arr 98 2 c.queues.toNat (rngG (List.replicate c.queues.toNat ⟨c.depth, []⟩)), .arr 3 1 k (Qam .i64 (QbH c k))]) (fun k => k ≤ (Qq c).toNat) (fun k => (Qq c).toNat - k) 0 (Nat.zero_le _) ?_ ?_
   ·refine (Mv.reserveO 9 17 3 1 (Qam .i64 []) rfl rfl rfl rfl).trans ?_
    exact Mv.k0
   ·intro k hk
    refine Go0 ?_
    refine Br.of (fun h3=>Go0 ?_) (fun h3=>Go0 ?_)
    ·have w1 : IntKind.i64.wrap (2 * Qo c + ↑k + 1) = 2 * Qo c + ↑(k + 1) := by
      rw [Qa _ om om]; omega
     refine ⟨k + 1, om, om, ?_⟩
     refine Mv.k1 ?_
     ·intro i hi j hj
      rw [Qis]
      exact WC.eq (Qdg (Qce c k).symm (by rw [Qce]; exact hi) hj) rfl
    ·have : k = (Qq c).toNat := by omega
     subst this
     have hlen : (QeL c d).works.length = c.queues.toNat := by simp [QeL, QE]
     unfold St.cellsK St.wobj
     rw [hlen]
     refine ⟨_, _, ?_, rfl, rfl⟩
     refine RM.fz 10 rfl (Nat.zero_le _) (fun _ _ _ _ => QB _ _) ?_
     refine RM.fz 11 rfl (Nat.zero_le _) (fun _ _ _ _ => WC.fzI_imm rfl) ?_
     refine RM.renW [8] (by decide) ?_ ?_ <;> (first|exact wb0|refine wb1 ?_|refine wb2 ?_ ?_|refine wb3 ?_ ?_ ?_|refine wb4 ?_ ?_ ?_ ?_)
     ·exact fun i _ j _ => WC.fz2I (Qj _ _)
     ·exact WC.fz2b rfl rfl (Qce _ _).symm (fun _ _ _ _ => leF.fzI rfl)
     ·exact WC.fz2a rfl (by simp [QeL, QE]) (fun _ _ _ _ => leF.refl)
theorem QqX : HB 84 := hB Tryz.func84
theorem Qsm (c : Conf) (h : Qw c = 0) : CS 34 [.a c.cells] [] fun x H => x = .t [.inr ((QE c).cellsK 0), .inl (.int .i64 0)] ∧ H = [(QE c).wobj] := by
 refine CSpec.rm ?_
 have hr := (Qv h).1
 have hq := confR_iff.1 hr
 refine ov0 hΓ Tryz.func34 28 0 [.cell 2 58, .tmp 3] Tryz.ntmps34 Tryz.results34 ?_
 refine CallN.pureA Qcs (Qcq c ) (Go0 ?_)
 refine Br.no (by simpa using h) (Go0 ?_)
 refine CallN.pureA Qm5 (QmE c.zones c.size 3 3 om ) (Go0 ?_)
 refine Br.no (by simpa using Qph h) (Go0 ?_)
 refine CallN.autoI [] QqX (QqC c (newD c.zones c.size 3 3) h) plh (Go0 ?_)
 refine ⟨_, _, ?_, rfl, rfl⟩
 exact RM.renW [3] (by decide) wb0 wb0
theorem Qtd : HB 34 := hB Tryz.func34
end Go.Proofs
end
