/- Part of the proofs of laws of this seat: contracts and plain lemmas; no condition is added to a statement. -/
import Derived.Test.YtmpoogflpmaijaaGreatA44
import Derived.Test.YtmpoogflpmaijaaGreatLinH
import Derived.Test.YtmpoogflpmaijaaGreatLi25
set_option linter.unusedSimpArgs false
set_option linter.unusedVariables false
open Go Go.Am
namespace Go.Proofs
set_option maxRecDepth 20000
set_option maxHeartbeats 2000000
/-! ### linear.order, whatever is to be put in order -/
def atL (l : List Evt) : Nat → Int → Int
  | 0, _ => 0
  | k + 1, s => if (l.getD k default).ret = true then atL l k s else if s = (l.getD k default).serial then k else atL l k s
theorem valL_at (l : List Evt) : ∀ (k : Nat) (s : Int), valL l k (keyS s) 0 = .int .i64 (atL l k s)
  | 0, _ => rfl
  | k + 1, s => by
    rw [valL, atL]
    split
    · exact valL_at l k s
    · unfold updV
      by_cases c : s = (l.getD k default).serial
      · rw [if_pos (by rw [c]), if_pos c]; rfl
      · rw [if_neg (fun q => c (by simpa [keyS] using q)), if_neg c]
        exact valL_at l k s
theorem MRep.ints {F G : Mem} {ks : List Key} {val : Key → Nat → C} {es : List MapEntry} {f : Int → Int} (hv : ∀ s, val (keyS s) 0 = .int .i64 (f s)) (h : MRep F (.c (some .i64)) [.i .i64] false ks val es) : MRep G (.c (some .i64)) [.i .i64] false ks val es := by
  have key : ∀ k : Key, k.sh = .c (some .i64) → ∀ x, RepF F (val k 0) x → RepF G (val k 0) x := fun k hk x hx => by
    obtain ⟨s, rfl⟩ := key_i hk
    rw [show (Key.c (.i .i64 s)) = keyS s from rfl, hv] at hx ⊢
    exact hx
  refine ⟨h.nd, h.shp, h.keys, fun i e k h1 h2 => ?_, fun k h1 h2 j hj => ?_⟩
  · obtain ⟨a1, a2, a3, a4⟩ := h.vals i e k h1 h2
    refine ⟨a1, a2, a3, fun j hj => ?_⟩
    obtain ⟨x, x1, x2⟩ := a4 j hj
    have : j = 0 := by simpa using hj
    subst this
    exact ⟨x, x1, key k (h.shp k (List.mem_of_getElem? h2)) x x2⟩
  · obtain ⟨x, x1, x2⟩ := h.none k h1 h2 j hj
    have : j = 0 := by simpa using hj
    subst this
    exact ⟨x, x1, key k h1 _ x2⟩
def orderH (e n : Nat) (rest : List Int) (ks : List Key) (val : Key → Nat → C) : List O := [.arr e 1 n (intsG .i64 rest), .vr [.sl 0 1 n n false], .mp (.c (some .i64)) [.i .i64] false ks val, .vr [.mpr 2]]
theorem sort_state {K : Keep} {F : Mem} {μ : Nat → Value} {w : World} {e n : Nat} {rest : List Int} {ks : List Key} {val : Key → Nat → C} {at_ : Int → Int} (hw : HSat K F (orderH e n rest ks val) μ w) (hn : rest.length = n) (hbd : n ≤ 1000000)
    (hv : ∀ s, val (keyS s) 0 = .int .i64 (at_ s)) (hinc : rest.Pairwise fun x y => at_ x < at_ y) {v24 v5 v3 : Value}
    (h24 : RepC F (orderH e n rest ks val) μ (.sl 0 1 n n false) v24) (h5 : RepC F (orderH e n rest ks val) μ (.ptr 3 0) v5) (h3 : RepC F (orderH e n rest ks val) μ (.ptr 1 0) v3) :
    Calls Tryz.prog 63 #[.iface 22 v24, .func (.func 64) #[] #[v5, v3]] w fun e w' => e = .returned (.tuple #[]) ∧ w.grownBy w' none := by
  obtain ⟨-, e', n', g', g1, -, -, h24⟩ := h24
  have hg0 : getL (orderH e n rest ks val) 0 = some (.arr e 1 n (intsG .i64 rest)) := rfl
  rw [hg0] at g1
  cases g1
  obtain ⟨a, cap, m0, rfl, -⟩ := h24 rfl
  by_cases h1 : n ≤ 1
  · refine (tiny_spec a n cap h1 _ _ _ w).mono ?_
    rintro e w' ⟨rfl, os, rfl⟩
    exact ⟨rfl, grow_by w os⟩
  · obtain ⟨-, B5, m3, rfl⟩ := h5
    obtain ⟨-, B3, m1, rfl⟩ := h3
    obtain ⟨xs, o1, -, o3, -⟩ := hw.ob 0 _ hg0
    obtain ⟨b, c, T, q1, q2, q3⟩ := hw.ob 1 _ (show getL (orderH e n rest ks val) 1 = some (.vr [.sl 0 1 n n false]) from rfl)
    obtain ⟨b2, es, ck, r1, r2, r3, r4⟩ := hw.ob 2 _ (show getL (orderH e n rest ks val) 2 = some (.mp (.c (some .i64)) [.i .i64] false ks val) from rfl)
    obtain ⟨b', c', T', s1, s2, s3⟩ := hw.ob 3 _ (show getL (orderH e n rest ks val) 3 = some (.vr [.mpr 2]) from rfl)
    rw [m1] at q1; cases q1
    rw [m3] at s1; cases s1
    rcases o1.2 with ⟨t1, t2⟩ | ⟨bk, cap', cur, t1, -, t3, t4, t5, t6, t7⟩
    · omega
    rw [m0] at t1; cases t1
    have own : ∀ id b, (∃ o, getL (orderH e n rest ks val) id = some o ∧ o ≠ .dead) → blk (μ id) = some b → owned (orderH e n rest ks val) μ id b := fun id b h1 h2 => ⟨h1, h2⟩
    have w0 : owned (orderH e n rest ks val) μ 0 bk := own 0 bk ⟨_, rfl, by simp⟩ (by rw [m0]; rfl)
    have w1 : owned (orderH e n rest ks val) μ 1 B3 := own 1 B3 ⟨_, rfl, by simp⟩ (by rw [m1]; rfl)
    have w2 : owned (orderH e n rest ks val) μ 2 b2 := own 2 b2 ⟨_, rfl, by simp⟩ (by rw [r1]; rfl)
    have w3 : owned (orderH e n rest ks val) μ 3 B5 := own 3 B5 ⟨_, rfl, by simp⟩ (by rw [m3]; rfl)
    have lt : ∀ {b : Nat} {o : Obj}, w.heap[b]? = some o → b < w.heap.size := fun h => (Array.getElem?_eq_some_iff.1 h).1
    have hsize : rest.toArray.size = n := by simpa using hn
    have hcell : ∀ j, j < n → cur[j]? = some (.int .i64 (rest.getD j default)) := fun j hj => by
      obtain ⟨v, v1, v2⟩ := o3 j hj 0 (by omega)
      rw [← t7, Nat.mul_one, Nat.add_zero, Nat.mul_one, List.getElem?_take, if_pos hj] at v1
      rw [← Array.getElem?_toList, v1]
      have : v = .int .i64 (rest.getD j default) := v2
      rw [this]
    have hH : Sort.Holds (Value.int .i64) w bk 0 rest.toArray := fun j hj => by
      have hj' : j < n := by omega
      have hjr : j < rest.length := by omega
      constructor
      · simp only [World.cell?, t3, Nat.zero_add]
        rw [show rest.toArray[j]! = rest.getD j default by rw [getElem!_pos _ j hj]; simp [List.getD, hjr]]
        simpa using hcell j hj'
      · simp [World.frozen?, t3]
    have hh := sort_inc at_ bk cap B5 B3 b2 rest.toArray (by omega) (by omega) w hH (lt t3)
      (fun q => by subst q; exact absurd (hw.ij 1 0 _ w1 w0) (by decide)) (fun q => by subst q; exact absurd (hw.ij 3 0 _ w3 w0) (by decide)) (fun q => by subst q; exact absurd (hw.ij 2 0 _ w2 w0) (by decide))
      (lt q2) (lt s2) (lt r2) ?_ ?_ ?_ hinc
    · rw [hsize] at hh
      exact hh
    · obtain ⟨v, v1, v2⟩ := q3.2 0 (.sl 0 1 n n false) rfl
      obtain ⟨-, e', n', g', g1, -, -, v2⟩ := v2
      rw [hg0] at g1
      cases g1
      obtain ⟨a', cap'', m0', rfl, -⟩ := v2 rfl
      rw [m0] at m0'
      cases m0'
      simp only [World.cell?, q2]
      rw [hsize]
      simpa using v1
    · obtain ⟨v, v1, v2⟩ := s3.2 0 (.mpr 2) rfl
      obtain ⟨-, b'', m2', rfl⟩ := v2
      rw [r1] at m2'
      cases m2'
      simp only [World.cell?, s2]
      simpa using v1
    · intro W hW s
      have hw2 : HSat (⟨[], fun _ => none, W.os, W.tape, W.output⟩ : Keep) (fun _ => none) [.mp (.c (some .i64)) [.i .i64] false ks val] (fun _ => .map (some b2)) W := by
        have g0 : ∀ i o, getL [O.mp (.c (some .i64)) [.i .i64] false ks val] i = some o → i = 0 ∧ o = .mp (.c (some .i64)) [.i .i64] false ks val := fun i o hi => by
          match i with
          | 0 => exact ⟨rfl, by simpa [getL] using hi.symm⟩
          | i + 1 => simp [getL] at hi
        refine ⟨rfl, rfl, rfl, fun b o hb => (by cases hb), fun b o hb => (by cases hb), fun i o hi => ?_, fun i b hi => ⟨rfl, rfl⟩, fun i j b hi hj => ?_, fun b o hb => (by cases hb)⟩
        · obtain ⟨rfl, rfl⟩ := g0 i o hi
          exact ⟨b2, es, ck, rfl, by rw [hW]; exact r2, MRep.ints hv r3, r4⟩
        · obtain ⟨⟨o, ho, -⟩, -⟩ := hi
          obtain ⟨⟨o', ho', -⟩, -⟩ := hj
          rw [(g0 _ _ ho).1, (g0 _ _ ho').1]
      obtain ⟨r, z1, z2⟩ := look_ok (P := Tryz.prog) hΓ hw2 (t := 102) (key := keyS s) (te := ⟨.int .i64, 1, 8, [.i .i64]⟩) (id := 0) (ks := ks) (val := val) rfl rfl (x := .map (some b2)) ⟨⟨_, _, _, _, _, (show getL _ 0 = _ from rfl)⟩, b2, rfl, rfl⟩ rfl (fun _ => rfl) rfl false
      have z3 : RepC (fun _ => none) [.mp (.c (some .i64)) [.i .i64] false ks val] (fun _ => .map (some b2)) (val (keyS s) 0) r := z2
      rw [hv] at z3
      have z4 : r = .int .i64 (at_ s) := z3
      rw [← z4]
      exact z1
theorem orderT_spec (l : List Evt) (rest : List Int) (hl : l.length ≤ 10000000) (hr : rest.length ≤ 1000000) (hinc : rest.Pairwise fun x y => atL l l.length x < atL l l.length y) :
    CSpec Tryz.prog 36 [.c (evC l), .c (.sl 0 1 rest.length rest.length false)] [.arr 3 1 rest.length (intsG .i64 rest)] fun s H => s = .c (.sl 0 1 rest.length rest.length false) ∧ H = [.arr 3 1 rest.length (intsG .i64 rest)] := by
  refine CSpec.rm ?_
  refine CSpec.of_aw hΓ Tryz.func36 29 1 [.tmp 4] Tryz.ntmps36 ?_
  refine AWn.seq hΓ ?_
  ((conv=>whnf);(repeat' ((first|refine Nd ?_|refine Hv fun _h=>?_);conv=>whnf)))
  refine AWn.seq hΓ ?_
  ((conv=>whnf);(repeat' ((first|refine Nd ?_|refine Hv fun _h=>?_);conv=>whnf)))
  refine AWn.seq hΓ ?_
  ((conv=>whnf);(repeat' ((first|refine Nd ?_|refine Hv fun _h=>?_);conv=>whnf)))
  refine Lp.mkK hΓ (ι := Nat) [3, 4, 5, 9, 10] (fun k => [(11, .c (.int .i64 k))]) (fun k => [.arr 3 1 rest.length (intsG .i64 rest), .vr [.sl 0 1 rest.length rest.length false], .mp (.c (some .i64)) [.i .i64] false (ksL l k) (valL l k), .vr [.mpr 2]]) (fun k => k ≤ l.length) (fun k => l.length - k) 0 (Nat.zero_le _) ?_ ?_
  · refine Mv.k2 ?_ ?_
    · exact fun i _ j _ => WC.imm rfl
    · intro k j _ hj
      have hj0 : j = 0 := by simpa using hj
      subst hj0
      exact leF.of_eq rfl
  · intro k hk
    ((conv=>whnf);(repeat' ((first|refine Nd ?_|refine Hv fun _h=>?_);conv=>whnf)))
    refine Br.of (fun h1=>?_) (fun h1=>?_)<;>(try simp only [Int.toNat_natCast] at h1)<;>(conv=>whnf)
    · ((conv=>whnf);(repeat' ((first|refine Nd ?_|refine Hv fun _h=>?_);conv=>whnf)))
      have hk' : k < l.length := by omega
      have e0 : (k : Int).toNat = k := by simp
      have hks : ksL l (k + 1) = if (l.getD k default).ret = true then ksL l k else updK (ksL l k) (keyS (l.getD k default).serial) := rfl
      have hvl : valL l (k + 1) = if (l.getD k default).ret = true then valL l k else updV (valL l k) (keyS (l.getD k default).serial) (lget [.int .i64 k]) := rfl
      rw [e0]
      generalize hx : l.getD k default = x at *
      cases hr2 : x.ret with
      | true =>
        rw [hr2, if_pos rfl] at hks hvl
        refine Br.no rfl ?_
        ((conv=>whnf);(repeat' ((first|refine Nd ?_|refine Hv fun _h=>?_);conv=>whnf)))
        refine ⟨k + 1, by omega, by omega, ?_⟩
        rw [hks, hvl]
        refine Mv.k1 ?_
        · exact fun i _ j _ => WC.imm rfl
      | false =>
        rw [hr2, if_neg (by simp)] at hks hvl
        refine Br.yes rfl ?_
        ((conv=>whnf);(repeat' ((first|refine Nd ?_|refine Hv fun _h=>?_);conv=>whnf)))
        refine ⟨k + 1, by omega, by omega, ?_⟩
        rw [hks, hvl]
        refine Mv.k1 ?_
        · exact fun i _ j _ => WC.imm rfl
    · ((conv=>whnf);(repeat' ((first|refine Nd ?_|refine Hv fun _h=>?_);conv=>whnf)))
      have hkn : k = l.length := by omega
      subst hkn
      refine AWn.rw hΓ [_] [_, _, _] rfl ?_
      ((conv=>whnf);(repeat' ((first|refine Nd ?_|refine Hv fun _h=>?_);conv=>whnf)))
      refine RwN.sortAny rfl rfl rfl rfl rfl rfl rfl rfl rfl ⟨rfl, rfl, rfl⟩ rfl rfl rfl (e := 3) ?_ ?_ ?_ ?_
      · kernel_rfl
      · exact sortSlice_has
      · intro K F0 H0 μ0 F μ a w hs
        exact sort_state (at_ := atL l l.length) hs.hs rfl hr (valL_at l l.length) hinc (hs.tp 24) (hs.tp 5) (hs.tp 3)
      · refine AWn.ofVc hΓ ?_
        ((conv=>whnf);(repeat' ((first|refine Nd ?_|refine Hv fun _h=>?_);conv=>whnf)))
        refine ⟨_, _, ?_, rfl, rfl⟩
        refine RM.w1 ?_
        exact fun i _ j _ => WC.imm rfl
end Go.Proofs
