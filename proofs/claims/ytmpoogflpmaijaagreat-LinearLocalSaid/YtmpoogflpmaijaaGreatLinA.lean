/- Part of the proofs of laws of this seat: contracts and plain lemmas; no condition is added to a statement. -/
import Derived.Test.YtmpoogflpmaijaaGreatHistC
import Derived.Test.YtmpoogflpmaijaaGreatAmF
import Derived.Test.YtmpoogflpmaijaaGreatAmG
import Derived.Test.YtmpoogflpmaijaaGreatLay1
set_option linter.unusedSimpArgs false
set_option linter.unusedVariables false
section
open Go Go.Am
namespace Go.Proofs
set_option maxRecDepth 20000
def zeroB : ByteArray := ⟨#[0, 0, 0, 0, 0, 0, 0, 0, 0, 0, 0, 0, 0, 0, 0, 0]⟩
theorem zero15_spec : PSpec Tryz.prog 29 [] (.c (.str zeroB)) := by
  refine PSpec.rm ?_
  refine ov hΓ Tryz.func29 3 0 [.tmp 0] Tryz.ntmps29 Tryz.results29 ?_
  ((conv=>whnf);(repeat' ((first|refine Nd ?_|refine Hv fun _h=>?_);conv=>whnf)))
  refine Need.mk (fun i _ => ⟨0, rfl⟩) ?_
  ((conv=>whnf);(repeat' ((first|refine Nd ?_|refine Hv fun _h=>?_);conv=>whnf)))
  exact RM.i0
theorem zero15_body : HasBody Tryz.prog 29 := hB Tryz.func29
theorem strs_get {l : List ByteArray} (i : Nat) : l.getD i ByteArray.empty = l.getD i default := rfl
theorem put_rows {l : List ByteArray} {v : ByteArray} {k : Nat} (hk : k ≤ l.length) {g0 : Nat → Nat → C} {t : List C} {i j : Nat} (hi : i < 0 + k + 1 + (l.length - k)) (hj : j < 1) :
    appG (appG (appG g0 0 fun i _ => C.str (l.getD i ByteArray.empty)) (0 + k) (flatG 1 (C.str v :: t))) (0 + k + 1) (fun i j => (fun i (_ : Nat) => C.str (l.getD i ByteArray.empty)) (k + i) j) i j = .str ((l.take k ++ v :: l.drop k).getD i ByteArray.empty) := by
  have hj0 : j = 0 := by omega
  subst hj0
  simp only [appG, Nat.zero_add]
  by_cases c1 : i < k + 1
  · rw [if_pos c1]
    by_cases c2 : i < k
    · rw [if_pos c2, if_neg (by omega)]
      congr 1
      simp [List.getD, List.getElem?_append, List.getElem?_take, c2, (by omega : i < l.length), Nat.min_eq_left hk]
    · have : i = k := by omega
      subst this
      rw [if_neg (by omega)]
      simp only [Nat.sub_self, flatG, Nat.zero_mul, Nat.add_zero, lget, getL]
      congr 1
      simp [List.getD, List.getElem?_append, List.length_take, Nat.min_eq_left hk]
  · rw [if_neg c1]
    congr 1
    have e : i = k + ((i - (k + 1)) + 1) := by omega
    simp only [List.getD]
    rw [List.getElem?_append_right (by rw [List.length_take]; omega)]
    rw [List.length_take, Nat.min_eq_left hk]
    rw [show i - k = (i - (k + 1)) + 1 by omega, List.getElem?_cons_succ, List.getElem?_drop]
theorem put_spec (l : List ByteArray) (v : ByteArray) (hl : l.length ≤ 100000) : PSpec Tryz.prog 72 [.c (strsC l), .c (.str v)] (.c (strsC (putM l v))) := by
  refine PSpec.rm ?_
  refine ov hΓ Tryz.func72 44 0 [.tmp 4] Tryz.ntmps72 Tryz.results72 ?_
  ((conv=>whnf);(repeat' ((first|refine Nd ?_|refine Hv fun _h=>?_);conv=>whnf)))
  refine Lp.mkK hΓ (ι := Nat) [0, 1] (fun i => [(5, .c (.int .i64 i))]) (fun i => []) (fun i => i ≤ l.length ∧ scanM l v l.length = scanM l v i) (fun i => i) l.length ⟨Nat.le_refl _, rfl⟩ ?_ ?_
  · exact Mv.k0
  · intro k ⟨hk, hs⟩
    ((conv=>whnf);(repeat' ((first|refine Nd ?_|refine Hv fun _h=>?_);conv=>whnf)))
    cases k with
    | zero =>
      refine Need.mk (fun h => by simp at h) ?_
      conv=>whnf
      refine Need.mk (fun h => by simp at h) ?_
      ((conv=>whnf);(repeat' ((first|refine Nd ?_|refine Hv fun _h=>?_);conv=>whnf)))
      refine Br.no rfl ?_
      ((conv=>whnf);(repeat' ((first|refine Nd ?_|refine Hv fun _h=>?_);conv=>whnf)))
      have hp : putM l v = l.take (0) ++ v :: l.drop (0) := by unfold putM; rw [hs,scanM]
      rw [hp]
      have e2 : (((0 : Nat) : Int)).toNat = 0 := by simp
      rw [e2]
      refine RM.rg 0 rfl (fun i hi j hj => put_rows hk hi hj) rfl ?_
      have e3 : (l.take (0) ++ v :: l.drop (0)).length = 0 + (0) + 1 + (l.length - (0)) := by simp; omega
      refine RM.fz 0 rfl (Nat.zero_le _) (fun _ _ _ _ => (by first | exact rfl | exact evCell_imm _ _ | exact zoneAt_imm _ _ _ | exact zoneAtT_imm _ _ _)) ?_; refine RM.wkW ?_ ?_ (Nat.zero_le _) <;> (first|exact wb0|refine wb1 ?_|refine wb2 ?_ ?_|refine wb3 ?_ ?_ ?_|refine wb4 ?_ ?_ ?_ ?_)
    | succ k =>
      have e1 : IntKind.i64.wrap (((k + 1 : Nat) : Int) - 1) = k := by rw [wrap_id _ (by omega) (by omega)]; omega
      have e3 : ((k : Int)).toNat = k := by simp
      rw [e1]
      ((conv=>whnf);(repeat' ((first|refine Nd ?_|refine Hv fun _h=>?_);conv=>whnf)))
      rw [e3]
      have hd : (bif decide (((k + 1 : Nat) : Int) > 0) then !strLt (l.getD k ByteArray.empty) v else false) = !strLt (l.getD k ByteArray.empty) v := by
        rw [decide_eq_true (by omega)]; rfl
      cases hlt : strLt (l.getD k ByteArray.empty) v with
      | true =>
        refine Br.no (by rw [decide_eq_true (by omega)]; rfl) ?_
        ((conv=>whnf);(repeat' ((first|refine Nd ?_|refine Hv fun _h=>?_);conv=>whnf)))
        have hs2 : scanM l v (k + 1) = some (k + 1) := by rw [scanM, if_pos hlt]
        have hp : putM l v = l.take (k+1) ++ v :: l.drop (k+1) := by unfold putM; rw [hs,hs2]
        rw [hp]
        have e2 : (((k+1 : Nat) : Int)).toNat = k+1 := by simp
        rw [e2]
        refine RM.rg 0 rfl (fun i hi j hj => put_rows hk hi hj) rfl ?_
        have e3 : (l.take (k+1) ++ v :: l.drop (k+1)).length = 0 + (k+1) + 1 + (l.length - (k+1)) := by simp; omega
        refine RM.fz 0 rfl (Nat.zero_le _) (fun _ _ _ _ => (by first | exact rfl | exact evCell_imm _ _ | exact zoneAt_imm _ _ _ | exact zoneAtT_imm _ _ _)) ?_; refine RM.wkW ?_ ?_ (Nat.zero_le _) <;> (first|exact wb0|refine wb1 ?_|refine wb2 ?_ ?_|refine wb3 ?_ ?_ ?_|refine wb4 ?_ ?_ ?_ ?_)
      | false =>
        refine Br.yes (by rw [decide_eq_true (by omega)]; rfl) ?_
        ((conv=>whnf);(repeat' ((first|refine Nd ?_|refine Hv fun _h=>?_);conv=>whnf)))
        rw [e1, e3]
        by_cases heq : l.getD k ByteArray.empty = v
        · refine Br.yes (decide_eq_true heq) ?_
          ((conv=>whnf);(repeat' ((first|refine Nd ?_|refine Hv fun _h=>?_);conv=>whnf)))
          have hs2 : scanM l v (k + 1) = none := by rw [scanM, if_neg (by rw [hlt]; simp), if_pos heq]
          have hp : putM l v = l := by unfold putM; rw [hs, hs2]
          rw [hp]
          exact RM.i0
        · refine Br.no (decide_eq_false heq) ?_
          ((conv=>whnf);(repeat' ((first|refine Nd ?_|refine Hv fun _h=>?_);conv=>whnf)))
          refine ⟨k, ⟨by omega, by rw [hs, scanM, if_neg (by rw [hlt]; simp), if_neg heq]⟩, by omega, ?_⟩
          exact Mv.k0
theorem put_body : HasBody Tryz.prog 72 := hB Tryz.func72
theorem Tryz.layExtra : Builder.Extra Tryz.prog Tryz.layRepeat_ren where
  sizeBuilder := by kernel_rfl
  liesBuilder := by kernel_rfl
  t5 := Tryz.layRepeat.t5
  a5 := Tryz.layRepeat.a5
  z5 := Tryz.layRepeat.z5
  v5 := Tryz.layRepeat.v5
  infoByte := by kernel_rfl
  cellsByte := by kernel_rfl
  sizeByte := by kernel_rfl
  neB5 := by decide
def strTo (x : List UInt8) : ByteArray := ⟨x.toArray⟩
def sortB (l : List ByteArray) : List ByteArray := ((l.map fun b => b.data.toList).mergeSort fun x y => decide (x ≤ y)).map strTo
theorem strTo_data (b : ByteArray) : strTo b.data.toList = b := by
  cases b; simp [strTo]
theorem sortB_perm (l : List ByteArray) : (sortB l).Perm l := by
  unfold sortB
  have := (List.mergeSort_perm (l.map fun b => b.data.toList) fun x y => decide (x ≤ y)).map strTo
  rw [List.map_map] at this
  have e : (strTo ∘ fun b : ByteArray => b.data.toList) = id := by
    funext b; exact strTo_data b
  rw [e, List.map_id] at this
  exact this
theorem sortB_len (l : List ByteArray) : (sortB l).length = l.length := (sortB_perm l).length_eq
theorem sortB_sorted (l : List ByteArray) : (sortB l).Pairwise fun a b => strLt b a = false := by
  unfold sortB
  rw [List.pairwise_map]
  have := List.pairwise_mergeSort (le := fun x y : List UInt8 => decide (x ≤ y)) (fun a b c h k => by
    simp only [decide_eq_true_eq] at *
    exact List.le_trans h k) (fun a b => by
    rcases List.le_total a b with h | h <;> simp [h]) (l.map fun b => b.data.toList)
  refine this.imp fun {a b} h => ?_
  rw [strLt_eq]
  simp only [strTo]
  exact decide_eq_false (List.not_lt.2 (of_decide_eq_true h))
theorem getD_map_data {l : List ByteArray} {j : Nat} (h : j < l.length) : l.getD j ByteArray.empty = l[j] := by simp [List.getD, h]
theorem sort_spec (e : Nat) (l : List ByteArray) (hl : l.length ≤ 100000) : CSpec Tryz.prog 75 [.c (.sl 0 1 l.length l.length false)] [.arr e 1 l.length (strG l)] fun s H => s = .u ∧ H = [.arr e 1 l.length (strG (sortB l))] := by
  by_cases h0 : l.length = 0
  · have e0 : l = [] := List.length_eq_zero_iff.1 h0
    subst e0
    have es : sortB [] = [] := by simp [sortB]
    rw [es]
    intro K F μ w vs hw hA
    obtain ⟨v, v1, v2⟩ := hA.2 0 _ rfl
    obtain ⟨_, e', n', g', y1, y2, y3, y4⟩ := v2
    have en : n' = 0 := by
      cases y1; rfl
    obtain ⟨a, cap', z1, z2, -⟩ := y4 en.symm
    have hvs : vs = #[.slice a 0 cap'] := by
      apply Array.ext_getElem?
      intro j
      match j with
      | 0 => rw [v1, z2]; rfl
      | j + 1 =>
        rw [Array.getElem?_eq_none (by rw [hA.1]; simp), Array.getElem?_eq_none (by simp)]
    subst hvs
    refine (AnyM.slices_Sort_string_none Tryz.laySort a cap' w).mono ?_
    rintro ex w' ⟨rfl, rfl⟩
    exact ⟨_, F, μ, .u, _, rfl, Mem.le_refl F, hw, Ext.refl _ μ, trivial, rfl, rfl⟩
  · refine CSpec.row (enc := encStr) (d := (l.map fun b => b.data.toList).toArray) (d' := ((l.map fun b => b.data.toList).mergeSort fun x y => decide (x ≤ y)).toArray) (res := fun _ _ => .tuple #[]) (by omega) (by simp) (by simp) ?_ ?_ ?_ ?_ ?_
    · intro j hj
      rw [getD_map_data hj]
      simp [hj, encStr]
    · intro j hj
      rw [getD_map_data (by rw [sortB_len]; exact hj)]
      simp [hj, sortB, strTo, encStr]
    · intro hs j hj
      rw [getD_map_data (by rw [sortB_len]; exact hj)]
      have hm := (sortB_perm l).mem_iff.1 (List.getElem_mem (show j < (sortB l).length by rw [sortB_len]; exact hj))
      obtain ⟨i, hi, e⟩ := List.getElem_of_mem hm
      have := hs i hi
      rw [getD_map_data hi, e] at this
      exact this
    · intros; trivial
    · intro b cap w hH hb h1 h2
      have := AnyM.slices_Sort_string Tryz.laySort b 0 cap (l.map fun b => b.data.toList) w hH hb (by simp; omega)
      rw [List.length_map] at this
      exact this
theorem sort_body : HasBody Tryz.prog 75 := hB Tryz.func75
theorem repeat_spec : PSpec Tryz.prog 86 [.c (.str ⟨#[0]⟩), .c (.int .i64 16)] (.c (.str zeroB)) := by
  refine PSpec.ofCalls fun F μ w vs hA => ?_
  have hvs : vs = #[.string ⟨#[0]⟩, .int .i64 16] := by
    obtain ⟨v0, a1, a2, -⟩ := hA.2 0 _ rfl
    obtain ⟨v1, b1, b2⟩ := hA.2 1 _ rfl
    rw [a2] at a1
    rw [show v1 = _ from b2] at b1
    apply Array.ext_getElem?
    intro j
    match j with
    | 0 => rw [a1]; rfl
    | 1 => rw [b1]; rfl
    | j + 2 =>
      rw [Array.getElem?_eq_none (by rw [hA.1]; simp), Array.getElem?_eq_none (by simp)]
  subst hvs
  refine ⟨.string zeroB, fun F' μ' => ⟨rfl, by decide⟩, ?_⟩
  exact Any.strings_Repeat Tryz.layRepeat Tryz.layExtra ⟨#[0]⟩ 16 w (by decide) (by decide)
theorem repeat_body : HasBody Tryz.prog 86 := hB Tryz.func86
theorem zero_spec : PSpec Tryz.prog 69 [] (.c (.str zeroB)) := by
  refine PSpec.rm ?_
  refine ov hΓ Tryz.func69 2 0 [.tmp 0] Tryz.ntmps69 Tryz.results69 ?_
  ((conv=>whnf);(repeat' ((first|refine Nd ?_|refine Hv fun _h=>?_);conv=>whnf)))
  refine CallN.pureA repeat_body (repeat_spec ) ?_
  ((conv=>whnf);(repeat' ((first|refine Nd ?_|refine Hv fun _h=>?_);conv=>whnf)))
  exact RM.i0
theorem zero_body : HasBody Tryz.prog 69 := hB Tryz.func69
theorem updG_one (g : Nat → Nat → C) (k j0 : Nat) (x : C) (i j : Nat) : updG g k j0 [x] i j = if i = k ∧ j = j0 then x else g i j := by
  simp only [updG, List.length_cons, List.length_nil]
  by_cases h : i = k ∧ j = j0
  · obtain ⟨rfl, rfl⟩ := h
    rw [if_pos (by omega), if_pos ⟨rfl, rfl⟩]
    simp [lget, getL]
  · rw [if_neg (by omega), if_neg h]
def zerosM (n : Nat) : List ByteArray := List.replicate n zeroB
theorem zeros_getD {n i : Nat} (h : i < n) : (zerosM n).getD i ByteArray.empty = zeroB := by
  simp [zerosM, List.getD, List.getElem?_replicate, h]
theorem new17_spec (n : Nat) (h1 : 1 ≤ n) (h2 : n ≤ 128) : PSpec Tryz.prog 10 [.c (.int .i64 n)] (.c (strsC (zerosM n))) := by
  refine PSpec.rm ?_
  refine ov hΓ Tryz.func10 23 0 [.tmp 2] Tryz.ntmps10 Tryz.results10 ?_
  ((conv=>whnf);(repeat' ((first|refine Nd ?_|refine Hv fun _h=>?_);conv=>whnf)))
  refine Br.no ?_ ?_
  · rw [decide_eq_false (by omega), decide_eq_false (by omega)]; rfl
  ((conv=>whnf);(repeat' ((first|refine Nd ?_|refine Hv fun _h=>?_);conv=>whnf)))
  refine Lp.mkK hΓ (ι := Nat) [0] (fun i => [(4, .c (.int .i64 i)), (3, .c (.sl 0 1 n n false))]) (fun i => [.arr 9 1 n (fun k _ => .str (if k < i then zeroB else ByteArray.empty))]) (fun i => i ≤ n) (fun i => n - i) 0 (Nat.zero_le _) ?_ ?_
  · refine Mv.k2 ?_ ?_
    · intro i hi j hj
      have hj0 : j = 0 := by have : j < 1 := hj; omega
      subst hj0
      exact WC.eq (by simp [zeroG, zeroL, lget, getL, Z.toC]) rfl
    · exact WC.sl rfl leN (by simp) (by simp) (fun q => by cases q)
  · intro i hi
    ((conv=>whnf);(repeat' ((first|refine Nd ?_|refine Hv fun _h=>?_);conv=>whnf)))
    refine Br.of (fun h3=>?_) (fun h3=>?_)<;>(try simp only [Int.toNat_natCast] at h3)<;>(conv=>whnf)
    · ((conv=>whnf);(repeat' ((first|refine Nd ?_|refine Hv fun _h=>?_);conv=>whnf)))
      refine CallN.pureA zero15_body (zero15_spec ) ?_
      ((conv=>whnf);(repeat' ((first|refine Nd ?_|refine Hv fun _h=>?_);conv=>whnf)))
      refine ⟨i + 1, by omega, by omega, ?_⟩
      refine Mv.k1 ?_
      intro k hk j hj
      rw [updG_one, Int.toNat_natCast]
      by_cases c : k = i ∧ j = 0
      · rw [if_pos c]
        exact WC.eq (by rw [if_pos (by omega)]) rfl
      · rw [if_neg c]
        refine WC.eq ?_ rfl
        by_cases c2 : k < i
        · rw [if_pos c2, if_pos (by omega)]
        · rw [if_neg c2, if_neg (by omega)]
    · ((conv=>whnf);(repeat' ((first|refine Nd ?_|refine Hv fun _h=>?_);conv=>whnf)))
      have : i = n := by omega
      subst this
      refine RM.fz 0 rfl (Nat.zero_le _) (fun _ _ _ _ => (by first | exact rfl | exact evCell_imm _ _ | exact zoneAt_imm _ _ _ | exact zoneAtT_imm _ _ _)) ?_; refine RM.wkW ?_ ?_ (Nat.zero_le _) <;> (first|exact wb0|refine wb1 ?_|refine wb2 ?_ ?_|refine wb3 ?_ ?_ ?_|refine wb4 ?_ ?_ ?_ ?_)
      have hz : (zerosM i).length = i := by simp [zerosM]
      refine WC.fz rfl hz.symm (fun k hk j hj => leF.of_eq ?_) (fun q => by cases q)
      rw [if_pos hk, zeros_getD hk]
theorem new17_body : HasBody Tryz.prog 10 := hB Tryz.func10
/-- The error of a command for so many blocks. -/
def cmdV (n k b : Int) (d : ByteArray) : Int :=
  if k < 1 ∨ 4 < k then 3 else if k = 4 ∧ b ≠ 0 ∨ k ≠ 4 ∧ (b < 0 ∨ n ≤ b) then 1 else if k = 2 ∧ d.size ≠ 16 ∨ k ≠ 2 ∧ d.size ≠ 0 then 2 else 0
def confC (n : Int) : List C := [.int .i64 0, .int .i64 0, .int .i64 n, .int .i64 0, .int .i64 0, .int .i64 0]
theorem size0 {b : ByteArray} (h : b.size = 0) : b = ByteArray.empty := by
  have : b.data = #[] := Array.eq_empty_of_size_eq_zero h
  cases b; simp_all
theorem cmd_spec (n k b : Int) (d : ByteArray) : PSpec Tryz.prog 34 [.a (confC n), .a [.int .i64 k, .int .i64 b, .str d]] (.c (.int .i64 (cmdV n k b d))) := by
  refine PSpec.rm ?_
  have fin : ∀ m, cmdV n k b d = m → RM 0 (.c (.int .i64 m)) [.vr (confC n), .vr [.int .i64 k, .int .i64 b, .str d]] (.c (.int .i64 (cmdV n k b d))) [] := fun m h => by
    rw [h]; refine RM.immW rfl ?_;(first|exact wb0|refine wb1 ?_|refine wb2 ?_ ?_|refine wb3 ?_ ?_ ?_|refine wb4 ?_ ?_ ?_ ?_)
  refine ov hΓ Tryz.func34 35 0 [.tmp 4] Tryz.ntmps34 Tryz.results34 ?_
  ((conv=>whnf);(repeat' ((first|refine Nd ?_|refine Hv fun _h=>?_);conv=>whnf)))
  by_cases hk : k = 1 ∨ k = 2 ∨ k = 3
  · by_cases hb : b < 0 ∨ b ≥ n
    · have hc : (bif decide (b < 0) then true else decide (b ≥ n)) = true := by
        rcases hb with hb | hb
        · rw [decide_eq_true hb]; rfl
        · rw [decide_eq_true hb]; cases decide (b < 0) <;> rfl
      rcases hk with hk | hk | hk
      · refine Br.yes (by simp [hk]) ?_
        ((conv=>whnf);(repeat' ((first|refine Nd ?_|refine Hv fun _h=>?_);conv=>whnf)))
        refine Br.yes (by simp [hk]) ?_
        ((conv=>whnf);(repeat' ((first|refine Nd ?_|refine Hv fun _h=>?_);conv=>whnf)))
        refine Br.yes hc ?_
        ((conv=>whnf);(repeat' ((first|refine Nd ?_|refine Hv fun _h=>?_);conv=>whnf)))
        exact fin _ (by unfold cmdV; (repeat' split) <;> omega)
      · refine Br.no (by simp [hk]) ?_
        ((conv=>whnf);(repeat' ((first|refine Nd ?_|refine Hv fun _h=>?_);conv=>whnf)))
        refine Br.yes (by simp [hk]) ?_
        ((conv=>whnf);(repeat' ((first|refine Nd ?_|refine Hv fun _h=>?_);conv=>whnf)))
        refine Br.yes (by simp [hk]) ?_
        ((conv=>whnf);(repeat' ((first|refine Nd ?_|refine Hv fun _h=>?_);conv=>whnf)))
        refine Br.yes hc ?_
        ((conv=>whnf);(repeat' ((first|refine Nd ?_|refine Hv fun _h=>?_);conv=>whnf)))
        exact fin _ (by unfold cmdV; (repeat' split) <;> omega)
      · refine Br.no (by simp [hk]) ?_
        ((conv=>whnf);(repeat' ((first|refine Nd ?_|refine Hv fun _h=>?_);conv=>whnf)))
        refine Br.no (by simp [hk]) ?_
        ((conv=>whnf);(repeat' ((first|refine Nd ?_|refine Hv fun _h=>?_);conv=>whnf)))
        refine Br.yes (by simp [hk]) ?_
        ((conv=>whnf);(repeat' ((first|refine Nd ?_|refine Hv fun _h=>?_);conv=>whnf)))
        refine Br.yes hc ?_
        ((conv=>whnf);(repeat' ((first|refine Nd ?_|refine Hv fun _h=>?_);conv=>whnf)))
        exact fin _ (by unfold cmdV; (repeat' split) <;> omega)
    · have hc : (bif decide (b < 0) then true else decide (b ≥ n)) = false := by
        rw [decide_eq_false (by omega : ¬ b < 0)]; exact decide_eq_false (by omega)
      rcases hk with hk | hk | hk
      · refine Br.yes (by simp [hk]) ?_
        ((conv=>whnf);(repeat' ((first|refine Nd ?_|refine Hv fun _h=>?_);conv=>whnf)))
        refine Br.yes (by simp [hk]) ?_
        ((conv=>whnf);(repeat' ((first|refine Nd ?_|refine Hv fun _h=>?_);conv=>whnf)))
        refine Br.no hc ?_
        ((conv=>whnf);(repeat' ((first|refine Nd ?_|refine Hv fun _h=>?_);conv=>whnf)))
        (first|refine Br.od (fun h5=>?_) (fun h5=>?_)|refine Br.mk (fun h5=>?_) (fun h5=>?_)<;>simp [-List.length_eq_zero_iff,-List.getD_eq_getElem?_getD] at h5)<;>(try simp only [Int.toNat_natCast] at h5)<;>(conv=>whnf)
        · ((conv=>whnf);(repeat' ((first|refine Nd ?_|refine Hv fun _h=>?_);conv=>whnf)))
          (first|refine Br.od (fun h6=>?_) (fun h6=>?_)|refine Br.mk (fun h6=>?_) (fun h6=>?_)<;>simp [-List.length_eq_zero_iff,-List.getD_eq_getElem?_getD] at h6)<;>(try simp only [Int.toNat_natCast] at h6)<;>(conv=>whnf)
          · ((conv=>whnf);(repeat' ((first|refine Nd ?_|refine Hv fun _h=>?_);conv=>whnf)))
            exact fin _ (by unfold cmdV; (repeat' split) <;> omega)
          · ((conv=>whnf);(repeat' ((first|refine Nd ?_|refine Hv fun _h=>?_);conv=>whnf)))
            exact fin _ (by unfold cmdV; (repeat' split) <;> omega)
        · ((conv=>whnf);(repeat' ((first|refine Nd ?_|refine Hv fun _h=>?_);conv=>whnf)))
          (first|refine Br.od (fun h6=>?_) (fun h6=>?_)|refine Br.mk (fun h6=>?_) (fun h6=>?_)<;>simp [-List.length_eq_zero_iff,-List.getD_eq_getElem?_getD] at h6)<;>(try simp only [Int.toNat_natCast] at h6)<;>(conv=>whnf)
          · ((conv=>whnf);(repeat' ((first|refine Nd ?_|refine Hv fun _h=>?_);conv=>whnf)))
            exact fin _ (by unfold cmdV; (repeat' split) <;> omega)
          · ((conv=>whnf);(repeat' ((first|refine Nd ?_|refine Hv fun _h=>?_);conv=>whnf)))
            exact fin _ (by unfold cmdV; (repeat' split) <;> omega)
      · refine Br.no (by simp [hk]) ?_
        ((conv=>whnf);(repeat' ((first|refine Nd ?_|refine Hv fun _h=>?_);conv=>whnf)))
        refine Br.yes (by simp [hk]) ?_
        ((conv=>whnf);(repeat' ((first|refine Nd ?_|refine Hv fun _h=>?_);conv=>whnf)))
        refine Br.yes (by simp [hk]) ?_
        ((conv=>whnf);(repeat' ((first|refine Nd ?_|refine Hv fun _h=>?_);conv=>whnf)))
        refine Br.no hc ?_
        ((conv=>whnf);(repeat' ((first|refine Nd ?_|refine Hv fun _h=>?_);conv=>whnf)))
        (first|refine Br.od (fun h5=>?_) (fun h5=>?_)|refine Br.mk (fun h5=>?_) (fun h5=>?_)<;>simp [-List.length_eq_zero_iff,-List.getD_eq_getElem?_getD] at h5)<;>(try simp only [Int.toNat_natCast] at h5)<;>(conv=>whnf)
        · ((conv=>whnf);(repeat' ((first|refine Nd ?_|refine Hv fun _h=>?_);conv=>whnf)))
          (first|refine Br.od (fun h6=>?_) (fun h6=>?_)|refine Br.mk (fun h6=>?_) (fun h6=>?_)<;>simp [-List.length_eq_zero_iff,-List.getD_eq_getElem?_getD] at h6)<;>(try simp only [Int.toNat_natCast] at h6)<;>(conv=>whnf)
          · ((conv=>whnf);(repeat' ((first|refine Nd ?_|refine Hv fun _h=>?_);conv=>whnf)))
            exact fin _ (by unfold cmdV; (repeat' split) <;> omega)
          · ((conv=>whnf);(repeat' ((first|refine Nd ?_|refine Hv fun _h=>?_);conv=>whnf)))
            exact fin _ (by unfold cmdV; (repeat' split) <;> omega)
        · ((conv=>whnf);(repeat' ((first|refine Nd ?_|refine Hv fun _h=>?_);conv=>whnf)))
          (first|refine Br.od (fun h6=>?_) (fun h6=>?_)|refine Br.mk (fun h6=>?_) (fun h6=>?_)<;>simp [-List.length_eq_zero_iff,-List.getD_eq_getElem?_getD] at h6)<;>(try simp only [Int.toNat_natCast] at h6)<;>(conv=>whnf)
          · ((conv=>whnf);(repeat' ((first|refine Nd ?_|refine Hv fun _h=>?_);conv=>whnf)))
            exact fin _ (by unfold cmdV; (repeat' split) <;> omega)
          · ((conv=>whnf);(repeat' ((first|refine Nd ?_|refine Hv fun _h=>?_);conv=>whnf)))
            exact fin _ (by unfold cmdV; (repeat' split) <;> omega)
      · refine Br.no (by simp [hk]) ?_
        ((conv=>whnf);(repeat' ((first|refine Nd ?_|refine Hv fun _h=>?_);conv=>whnf)))
        refine Br.no (by simp [hk]) ?_
        ((conv=>whnf);(repeat' ((first|refine Nd ?_|refine Hv fun _h=>?_);conv=>whnf)))
        refine Br.yes (by simp [hk]) ?_
        ((conv=>whnf);(repeat' ((first|refine Nd ?_|refine Hv fun _h=>?_);conv=>whnf)))
        refine Br.no hc ?_
        ((conv=>whnf);(repeat' ((first|refine Nd ?_|refine Hv fun _h=>?_);conv=>whnf)))
        (first|refine Br.od (fun h5=>?_) (fun h5=>?_)|refine Br.mk (fun h5=>?_) (fun h5=>?_)<;>simp [-List.length_eq_zero_iff,-List.getD_eq_getElem?_getD] at h5)<;>(try simp only [Int.toNat_natCast] at h5)<;>(conv=>whnf)
        · ((conv=>whnf);(repeat' ((first|refine Nd ?_|refine Hv fun _h=>?_);conv=>whnf)))
          (first|refine Br.od (fun h6=>?_) (fun h6=>?_)|refine Br.mk (fun h6=>?_) (fun h6=>?_)<;>simp [-List.length_eq_zero_iff,-List.getD_eq_getElem?_getD] at h6)<;>(try simp only [Int.toNat_natCast] at h6)<;>(conv=>whnf)
          · ((conv=>whnf);(repeat' ((first|refine Nd ?_|refine Hv fun _h=>?_);conv=>whnf)))
            exact fin _ (by unfold cmdV; (repeat' split) <;> omega)
          · ((conv=>whnf);(repeat' ((first|refine Nd ?_|refine Hv fun _h=>?_);conv=>whnf)))
            exact fin _ (by unfold cmdV; (repeat' split) <;> omega)
        · ((conv=>whnf);(repeat' ((first|refine Nd ?_|refine Hv fun _h=>?_);conv=>whnf)))
          (first|refine Br.od (fun h6=>?_) (fun h6=>?_)|refine Br.mk (fun h6=>?_) (fun h6=>?_)<;>simp [-List.length_eq_zero_iff,-List.getD_eq_getElem?_getD] at h6)<;>(try simp only [Int.toNat_natCast] at h6)<;>(conv=>whnf)
          · ((conv=>whnf);(repeat' ((first|refine Nd ?_|refine Hv fun _h=>?_);conv=>whnf)))
            exact fin _ (by unfold cmdV; (repeat' split) <;> omega)
          · ((conv=>whnf);(repeat' ((first|refine Nd ?_|refine Hv fun _h=>?_);conv=>whnf)))
            exact fin _ (by unfold cmdV; (repeat' split) <;> omega)
  · have h1 : ¬ k = 1 := by omega
    have h2 : ¬ k = 2 := by omega
    have h3 : ¬ k = 3 := by omega
    refine Br.no (by simp [h1]) ?_
    ((conv=>whnf);(repeat' ((first|refine Nd ?_|refine Hv fun _h=>?_);conv=>whnf)))
    refine Br.no (by simp [h2]) ?_
    ((conv=>whnf);(repeat' ((first|refine Nd ?_|refine Hv fun _h=>?_);conv=>whnf)))
    refine Br.no (by simp [h3]) ?_
    ((conv=>whnf);(repeat' ((first|refine Nd ?_|refine Hv fun _h=>?_);conv=>whnf)))
    (first|refine Br.od (fun h4=>?_) (fun h4=>?_)|refine Br.mk (fun h4=>?_) (fun h4=>?_)<;>simp [-List.length_eq_zero_iff,-List.getD_eq_getElem?_getD] at h4)<;>(try simp only [Int.toNat_natCast] at h4)<;>(conv=>whnf)
    · ((conv=>whnf);(repeat' ((first|refine Nd ?_|refine Hv fun _h=>?_);conv=>whnf)))
      (first|refine Br.od (fun h7=>?_) (fun h7=>?_)|refine Br.mk (fun h7=>?_) (fun h7=>?_)<;>simp [-List.length_eq_zero_iff,-List.getD_eq_getElem?_getD] at h7)<;>(try simp only [Int.toNat_natCast] at h7)<;>(conv=>whnf)
      · ((conv=>whnf);(repeat' ((first|refine Nd ?_|refine Hv fun _h=>?_);conv=>whnf)))
        exact fin _ (by unfold cmdV; (repeat' split) <;> omega)
      · ((conv=>whnf);(repeat' ((first|refine Nd ?_|refine Hv fun _h=>?_);conv=>whnf)))
        (first|refine Br.od (fun h5=>?_) (fun h5=>?_)|refine Br.mk (fun h5=>?_) (fun h5=>?_)<;>simp [-List.length_eq_zero_iff,-List.getD_eq_getElem?_getD] at h5)<;>(try simp only [Int.toNat_natCast] at h5)<;>(conv=>whnf)
        · ((conv=>whnf);(repeat' ((first|refine Nd ?_|refine Hv fun _h=>?_);conv=>whnf)))
          (first|refine Br.od (fun h6=>?_) (fun h6=>?_)|refine Br.mk (fun h6=>?_) (fun h6=>?_)<;>simp [-List.length_eq_zero_iff,-List.getD_eq_getElem?_getD] at h6)<;>(try simp only [Int.toNat_natCast] at h6)<;>(conv=>whnf)
          · ((conv=>whnf);(repeat' ((first|refine Nd ?_|refine Hv fun _h=>?_);conv=>whnf)))
            exact fin _ (by unfold cmdV; (repeat' split) <;> omega)
          · ((conv=>whnf);(repeat' ((first|refine Nd ?_|refine Hv fun _h=>?_);conv=>whnf)))
            exact fin _ (by unfold cmdV; (repeat' split) <;> omega)
        · ((conv=>whnf);(repeat' ((first|refine Nd ?_|refine Hv fun _h=>?_);conv=>whnf)))
          (first|refine Br.od (fun h6=>?_) (fun h6=>?_)|refine Br.mk (fun h6=>?_) (fun h6=>?_)<;>simp [-List.length_eq_zero_iff,-List.getD_eq_getElem?_getD] at h6)<;>(try simp only [Int.toNat_natCast] at h6)<;>(conv=>whnf)
          · ((conv=>whnf);(repeat' ((first|refine Nd ?_|refine Hv fun _h=>?_);conv=>whnf)))
            exact fin _ (by unfold cmdV; (repeat' split) <;> omega)
          · ((conv=>whnf);(repeat' ((first|refine Nd ?_|refine Hv fun _h=>?_);conv=>whnf)))
            exact fin _ (by unfold cmdV; (repeat' split) <;> omega)
    · ((conv=>whnf);(repeat' ((first|refine Nd ?_|refine Hv fun _h=>?_);conv=>whnf)))
      exact fin _ (by unfold cmdV; (repeat' split) <;> omega)
theorem cmd_body : HasBody Tryz.prog 34 := hB Tryz.func34
theorem cmd15_spec (n k b : Int) (d : ByteArray) : PSpec Tryz.prog 51 [.a (confC n), .a [.int .i64 k, .int .i64 b, .str d]] (.c (.int .i64 (cmdV n k b d))) := by
  refine PSpec.rm ?_
  refine ov hΓ Tryz.func51 56 0 [.tmp 4] Tryz.ntmps51 Tryz.results51 ?_
  ((conv=>whnf);(repeat' ((first|refine Nd ?_|refine Hv fun _h=>?_);conv=>whnf)))
  have hE : (d = ByteArray.empty) ↔ d.size = 0 := ⟨fun h => by rw [h]; rfl, size0⟩
  by_cases h1 : k < 1 ∨ 4 < k
  · refine Br.yes (by simp; omega) ?_
    ((conv=>whnf);(repeat' ((first|refine Nd ?_|refine Hv fun _h=>?_);conv=>whnf)))
    rw [show cmdV n k b d = 3 from if_pos h1]
    exact RM.i0
  · refine Br.no (by simp; omega) ?_
    ((conv=>whnf);(repeat' ((first|refine Nd ?_|refine Hv fun _h=>?_);conv=>whnf)))
    by_cases h2 : k = 4 ∧ b ≠ 0 ∨ k ≠ 4 ∧ (b < 0 ∨ n ≤ b)
    · have e : cmdV n k b d = 1 := by unfold cmdV; rw [if_neg h1, if_pos h2]
      by_cases h3 : k = 4 ∧ b ≠ 0
      · refine Br.yes (by simp; omega) ?_
        ((conv=>whnf);(repeat' ((first|refine Nd ?_|refine Hv fun _h=>?_);conv=>whnf)))
        refine Br.yes (by simp; omega) ?_
        ((conv=>whnf);(repeat' ((first|refine Nd ?_|refine Hv fun _h=>?_);conv=>whnf)))
        rw [e]
        exact RM.i0
      · refine Br.no (by simp; omega) ?_
        ((conv=>whnf);(repeat' ((first|refine Nd ?_|refine Hv fun _h=>?_);conv=>whnf)))
        refine Br.yes (by simp; omega) ?_
        ((conv=>whnf);(repeat' ((first|refine Nd ?_|refine Hv fun _h=>?_);conv=>whnf)))
        rw [e]
        exact RM.i0
    · refine Br.no (by simp; omega) ?_
      ((conv=>whnf);(repeat' ((first|refine Nd ?_|refine Hv fun _h=>?_);conv=>whnf)))
      refine Br.no (by simp; omega) ?_
      ((conv=>whnf);(repeat' ((first|refine Nd ?_|refine Hv fun _h=>?_);conv=>whnf)))
      by_cases h3 : k = 2 ∧ d.size ≠ 16 ∨ k ≠ 2 ∧ d.size ≠ 0
      · have e : cmdV n k b d = 2 := by unfold cmdV; rw [if_neg h1, if_neg h2, if_pos h3]
        by_cases h4 : k = 2 ∧ d.size ≠ 16
        · refine Br.yes (by simp; omega) ?_
          ((conv=>whnf);(repeat' ((first|refine Nd ?_|refine Hv fun _h=>?_);conv=>whnf)))
          refine Br.yes (by simp; omega) ?_
          ((conv=>whnf);(repeat' ((first|refine Nd ?_|refine Hv fun _h=>?_);conv=>whnf)))
          rw [e]
          exact RM.i0
        · refine Br.no (by simp; omega) ?_
          ((conv=>whnf);(repeat' ((first|refine Nd ?_|refine Hv fun _h=>?_);conv=>whnf)))
          refine Br.yes (by simp; rw [show (ByteArray.mk #[]) = ByteArray.empty from rfl, hE]; omega) ?_
          ((conv=>whnf);(repeat' ((first|refine Nd ?_|refine Hv fun _h=>?_);conv=>whnf)))
          rw [e]
          exact RM.i0
      · have e : cmdV n k b d = 0 := by unfold cmdV; rw [if_neg h1, if_neg h2, if_neg h3]
        refine Br.no (by simp; omega) ?_
        ((conv=>whnf);(repeat' ((first|refine Nd ?_|refine Hv fun _h=>?_);conv=>whnf)))
        refine Br.no (by simp; rw [show (ByteArray.mk #[]) = ByteArray.empty from rfl, hE]; omega) ?_
        ((conv=>whnf);(repeat' ((first|refine Nd ?_|refine Hv fun _h=>?_);conv=>whnf)))
        rw [e]
        exact RM.i0
theorem cmd15_body : HasBody Tryz.prog 51 := hB Tryz.func51
end Go.Proofs
end

section
open Go Go.Am
namespace Go.Proofs
def sameTo (a b : List ByteArray) : Nat → Bool
  | 0 => true
  | k + 1 => sameTo a b k && decide (a.getD k ByteArray.empty = b.getD k ByteArray.empty)
theorem same17_spec (a b : List ByteArray) : PSpec Tryz.prog 17 [.c (strsC a), .c (strsC b)] (.c (.bool (decide (a = b)))) := by
  have key : a.length = b.length → (a = b ↔ ∀ i, i < a.length → a.getD i ByteArray.empty = b.getD i ByteArray.empty) := by
    intro hl
    constructor
    · rintro rfl; simp
    · intro h
      refine List.ext_getElem hl fun i h1 h2 => ?_
      have := h i h1
      simpa [List.getD, h1, h2] using this
  refine PSpec.rm ?_
  refine ov hΓ Tryz.func17 26 0 [.tmp 4] Tryz.ntmps17 Tryz.results17 ?_
  ((conv=>whnf);(repeat' ((first|refine Nd ?_|refine Hv fun _h=>?_);conv=>whnf)))
  refine Br.of (fun h0=>?_) (fun h0=>?_)<;>(try simp only [Int.toNat_natCast] at h0)<;>(conv=>whnf)
  · ((conv=>whnf);(repeat' ((first|refine Nd ?_|refine Hv fun _h=>?_);conv=>whnf)))
    rw [decide_eq_false (fun e => h0 (by rw [e]))]
    exact RM.i0
  · ((conv=>whnf);(repeat' ((first|refine Nd ?_|refine Hv fun _h=>?_);conv=>whnf)))
    refine Lp.mkK hΓ (ι := Nat) [0, 1] (fun i => [(5, .c (.int .i64 i))]) (fun i => []) (fun i => i ≤ a.length ∧ ∀ j, j < i → a.getD j ByteArray.empty = b.getD j ByteArray.empty) (fun i => a.length - i) 0 ⟨Nat.zero_le _, fun j hj => absurd hj (by omega)⟩ ?_ ?_
    · exact Mv.k0
    · intro k ⟨hk, hs⟩
      ((conv=>whnf);(repeat' ((first|refine Nd ?_|refine Hv fun _h=>?_);conv=>whnf)))
      refine Br.of (fun h1=>?_) (fun h1=>?_)<;>(try simp only [Int.toNat_natCast] at h1)<;>(conv=>whnf)
      · ((conv=>whnf);(repeat' ((first|refine Nd ?_|refine Hv fun _h=>?_);conv=>whnf)))
        refine Dr.mk hΓ hMix (by kernel_rfl) ?_; conv=>whnf
        ((conv=>whnf);(repeat' ((first|refine Nd ?_|refine Hv fun _h=>?_);conv=>whnf)))
        have e0 : (k : Int).toNat = k := by simp
        rw [e0]
        (first|refine Br.od (fun h2=>?_) (fun h2=>?_)|refine Br.mk (fun h2=>?_) (fun h2=>?_)<;>simp [-List.length_eq_zero_iff,-List.getD_eq_getElem?_getD] at h2)<;>(try simp only [Int.toNat_natCast] at h2)<;>(conv=>whnf)
        · ((conv=>whnf);(repeat' ((first|refine Nd ?_|refine Hv fun _h=>?_);conv=>whnf)))
          rw [decide_eq_false (fun e => of_decide_eq_false h2 (by rw [e]))]
          exact RM.i0
        · ((conv=>whnf);(repeat' ((first|refine Nd ?_|refine Hv fun _h=>?_);conv=>whnf)))
          refine ⟨k + 1, ⟨by omega, fun j hj => ?_⟩, by omega, ?_⟩
          · by_cases c : j = k
            · subst c; exact of_decide_eq_true h2
            · exact hs j (by omega)
          exact Mv.k0
      · ((conv=>whnf);(repeat' ((first|refine Nd ?_|refine Hv fun _h=>?_);conv=>whnf)))
        have : k = a.length := by omega
        subst this
        rw [decide_eq_true ((key (by omega)).2 hs)]
        exact RM.i0
theorem same17_body : HasBody Tryz.prog 17 := hB Tryz.func17

/-! ### a command, applied -/
def appE (n k b : Int) (d : ByteArray) : Int := cmdV n k b d
def appB (bs : List ByteArray) (k b : Int) (d : ByteArray) : List ByteArray :=
  if cmdV bs.length k b d ≠ 0 then bs else if k = 2 then bs.set b.toNat d else if k = 3 then bs.set b.toNat zeroB else bs
def appD (bs : List ByteArray) (k b : Int) (d : ByteArray) : ByteArray :=
  if cmdV bs.length k b d ≠ 0 then ByteArray.empty else if k = 1 then bs.getD b.toNat ByteArray.empty else ByteArray.empty
theorem cmdV_kind {n k b : Int} {d : ByteArray} (h : cmdV n k b d = 0) : 1 ≤ k ∧ k ≤ 4 ∧ (k ≠ 4 → 0 ≤ b ∧ b < n) ∧ (k = 2 → d.size = 16) := by
  unfold cmdV at h
  (repeat' split at h) <;> omega
theorem strs_set {f : List ByteArray} {k : Nat} {v : ByteArray} (hk : k < f.length) {i j : Nat} (hj : j < 1) : updG (strG f) k 0 [.str v] i j = strG (f.set k v) i j := by
  have hj0 : j = 0 := by omega
  subst hj0
  rw [updG_one]
  unfold strG
  by_cases c : i = k
  · subst c
    rw [if_pos ⟨rfl, rfl⟩]
    simp [List.getD, hk]
  · rw [if_neg (fun q => c q.1)]
    simp only [List.getD]
    rw [List.getElem?_set_ne (Ne.symm c)]
theorem with17_spec (bs : List ByteArray) (b : Int) (v : ByteArray) (hb : 0 ≤ b ∧ b < bs.length) (hl : bs.length ≤ 1000000) : PSpec Tryz.prog 52 [.c (strsC bs), .c (.int .i64 b), .c (.str v)] (.c (strsC (bs.set b.toNat v))) := by
  refine PSpec.rm ?_
  refine ov hΓ Tryz.func52 16 0 [.tmp 6] Tryz.ntmps52 Tryz.results52 ?_
  ((conv=>whnf);(repeat' ((first|refine Nd ?_|refine Hv fun _h=>?_);conv=>whnf)))
  have hbn : b.toNat < bs.length := by omega
  refine RM.rg 0 rfl (fun i hi j hj => (show _ = strG (bs.set b.toNat v) i j from ?_)) rfl ?_
  · rw [← strs_set hbn hj]
    simp only [updG_one]
    have hj0 : j = 0 := by have : j < 1 := hj; omega
    subst hj0
    by_cases c : i = b.toNat
    · subst c; simp
    · rw [if_neg (fun q => c q.1), if_neg (fun q => c q.1)]
      simp [appG, strG]
  have e3 : (bs.set b.toNat v).length = bs.length := by simp
  refine RM.fz 0 rfl (Nat.zero_le _) (fun _ _ _ _ => (by first | exact rfl | exact evCell_imm _ _ | exact zoneAt_imm _ _ _ | exact zoneAtT_imm _ _ _)) ?_; refine RM.wkW ?_ ?_ (Nat.zero_le _) <;> (first|exact wb0|refine wb1 ?_|refine wb2 ?_ ?_|refine wb3 ?_ ?_ ?_|refine wb4 ?_ ?_ ?_ ?_)
theorem with17_body : HasBody Tryz.prog 52 := hB Tryz.func52
theorem clone_spec (bs : List ByteArray) (hl : bs.length ≤ 1000000) : CSpec Tryz.prog 68 [.c (strsC bs)] [] fun s H => s = .c (.sl 0 1 bs.length bs.length false) ∧ H = [.arr 9 1 bs.length (strG bs)] := by
  refine CSpec.rm ?_
  refine ov hΓ Tryz.func68 11 0 [.tmp 2] Tryz.ntmps68 Tryz.results68 ?_
  ((conv=>whnf);(repeat' ((first|refine Nd ?_|refine Hv fun _h=>?_);conv=>whnf)))
  refine ⟨_, _, ?_, rfl, rfl⟩
  refine RM.renW [0] (by decide) ?_ ?_ <;> (first|exact wb0|refine wb1 ?_|refine wb2 ?_ ?_|refine wb3 ?_ ?_ ?_|refine wb4 ?_ ?_ ?_ ?_)
  · intro i hi j hj
    have hj0 : j = 0 := by have : j < 1 := hj; omega
    have hi' : i < bs.length := by have : i < (bs.length : Int).toNat := hi; omega
    subst hj0
    refine WC.eq ?_ rfl
    simp [copyG, hi', strG]
  · exact WC.sl rfl leN (by simp) (by simp) (fun q => by cases q)
theorem clone_body : HasBody Tryz.prog 68 := hB Tryz.func68
theorem strings_spec (e : Nat) (l : List ByteArray) (hl : l.length ≤ 100000) : CSpec Tryz.prog 49 [.c (.sl 0 1 l.length l.length false)] [.arr e 1 l.length (strG l)] fun s H => s = .u ∧ H = [.arr e 1 l.length (strG (sortB l))] := by
  refine CSpec.rm ?_
  refine ov hΓ Tryz.func49 4 1 [] Tryz.ntmps49 Tryz.results49 ?_
  ((conv=>whnf);(repeat' ((first|refine Nd ?_|refine Hv fun _h=>?_);conv=>whnf)))
  refine CallN.autoQ [0] sort_body (sort_spec e l hl) ?_ (h := WR.cons rfl (WO.arr rfl fun i hi j hj => WC.imm rfl) WR.nil)
  ((conv=>whnf);(repeat' ((first|refine Nd ?_|refine Hv fun _h=>?_);conv=>whnf)))
  exact ⟨.u, _, RM.wkW (WH.cons (WO.arr rfl fun i hi j hj => WC.imm rfl) WH.nil) WS.u (Nat.le_refl _), rfl, rfl⟩
theorem strings_body : HasBody Tryz.prog 49 := hB Tryz.func49
theorem apply17_spec (bs : List ByteArray) (k b : Int) (d : ByteArray) (hl : bs.length ≤ 1000000) : PSpec Tryz.prog 28 [.c (strsC bs), .a [.int .i64 k, .int .i64 b, .str d]] (.t [.inl (strsC (appB bs k b d)), .inr [.int .i64 (appE bs.length k b d), .str (appD bs k b d)]]) := by
  refine PSpec.rm ?_
  have fin : ∀ {B : List ByteArray} {E : Int} {D : ByteArray} {H : List O} {s : S}, appB bs k b d = B → appE bs.length k b d = E → appD bs k b d = D → RM 0 s H (.t [.inl (strsC B), .inr [.int .i64 E, .str D]]) [] → RM 0 s H (.t [.inl (strsC (appB bs k b d)), .inr [.int .i64 (appE bs.length k b d), .str (appD bs k b d)]]) [] := fun h1 h2 h3 h => by
    rw [h1, h2, h3]; exact h
  refine ov hΓ Tryz.func28 47 0 [.tmp 4, .cell 5 50] Tryz.ntmps28 Tryz.results28 ?_
  ((conv=>whnf);(repeat' ((first|refine Nd ?_|refine Hv fun _h=>?_);conv=>whnf)))
  refine CallN.pureA cmd15_body (cmd15_spec bs.length k b d ) ?_
  ((conv=>whnf);(repeat' ((first|refine Nd ?_|refine Hv fun _h=>?_);conv=>whnf)))
  refine Br.of (fun h0=>?_) (fun h0=>?_)<;>(try simp only [Int.toNat_natCast] at h0)<;>(conv=>whnf)
  · ((conv=>whnf);(repeat' ((first|refine Nd ?_|refine Hv fun _h=>?_);conv=>whnf)))
    refine fin (by unfold appB; rw [if_pos h0]) rfl (by unfold appD; rw [if_pos h0]) ?_
    exact RM.i0
  · ((conv=>whnf);(repeat' ((first|refine Nd ?_|refine Hv fun _h=>?_);conv=>whnf)))
    obtain ⟨k1, k2, k3, k4⟩ := cmdV_kind h0
    refine Br.of (fun h1=>?_) (fun h1=>?_)<;>(try simp only [Int.toNat_natCast] at h1)<;>(conv=>whnf)
    · ((conv=>whnf);(repeat' ((first|refine Nd ?_|refine Hv fun _h=>?_);conv=>whnf)))
      refine Dr.mk hΓ hMix (by kernel_rfl) ?_; conv=>whnf
      ((conv=>whnf);(repeat' ((first|refine Nd ?_|refine Hv fun _h=>?_);conv=>whnf)))
      refine fin (by unfold appB; rw [if_neg (by omega), if_neg (by omega), if_neg (by omega)]) h0 (by unfold appD; rw [if_neg (by omega), if_pos h1]) ?_
      exact RM.i0
    · ((conv=>whnf);(repeat' ((first|refine Nd ?_|refine Hv fun _h=>?_);conv=>whnf)))
      refine Br.of (fun h2=>?_) (fun h2=>?_)<;>(try simp only [Int.toNat_natCast] at h2)<;>(conv=>whnf)
      · ((conv=>whnf);(repeat' ((first|refine Nd ?_|refine Hv fun _h=>?_);conv=>whnf)))
        refine CallN.pureA with17_body (with17_spec bs b d (by omega) hl ) ?_
        ((conv=>whnf);(repeat' ((first|refine Nd ?_|refine Hv fun _h=>?_);conv=>whnf)))
        refine fin (by unfold appB; rw [if_neg (by omega), if_pos h2]) h0 (by unfold appD; rw [if_neg (by omega), if_neg h1]) ?_
        exact RM.i0
      · ((conv=>whnf);(repeat' ((first|refine Nd ?_|refine Hv fun _h=>?_);conv=>whnf)))
        refine Br.of (fun h3=>?_) (fun h3=>?_)<;>(try simp only [Int.toNat_natCast] at h3)<;>(conv=>whnf)
        · ((conv=>whnf);(repeat' ((first|refine Nd ?_|refine Hv fun _h=>?_);conv=>whnf)))
          refine Dr.mk hΓ hMix (by kernel_rfl) ?_; conv=>whnf
          ((conv=>whnf);(repeat' ((first|refine Nd ?_|refine Hv fun _h=>?_);conv=>whnf)))
          refine CallP.auto zero15_body (zero15_spec ) ?_
          ((conv=>whnf);(repeat' ((first|refine Nd ?_|refine Hv fun _h=>?_);conv=>whnf)))
          refine CallP.auto with17_body (with17_spec bs b zeroB (by omega) hl ) ?_
          ((conv=>whnf);(repeat' ((first|refine Nd ?_|refine Hv fun _h=>?_);conv=>whnf)))
          refine fin (by unfold appB; rw [if_neg (by omega), if_neg h2, if_pos h3]) h0 (by unfold appD; rw [if_neg (by omega), if_neg h1]) ?_
          exact RM.i0
        · ((conv=>whnf);(repeat' ((first|refine Nd ?_|refine Hv fun _h=>?_);conv=>whnf)))
          refine fin (by unfold appB; rw [if_neg (by omega), if_neg h2, if_neg h3]) h0 (by unfold appD; rw [if_neg (by omega), if_neg h1]) ?_
          exact RM.i0
theorem apply17_body : HasBody Tryz.prog 28 := hB Tryz.func28
theorem fzStrs {m n : Nat} {g : Nat → Nat → C} {id : Nat} {f : List ByteArray} {x : Bool} (hn : f.length = n) (hg : ∀ i, i < n → ∀ j, j < 1 → g i j = strG f i j) : WC idN m (fzC id n g (.sl id 1 n n x)) (strsC f) := by
  have e1 : strsC f = .isl 1 n (strG f) false := by unfold strsC; rw [hn]; rfl
  rw [e1]
  exact WC.fz rfl rfl (fun i hi j hj => leF.of_eq (hg i hi j hj)) (fun q => by cases q)
theorem apply_spec (bs : List ByteArray) (k b : Int) (d : ByteArray) (hl : bs.length ≤ 1000000) : PSpec Tryz.prog 43 [.c (strsC bs), .a [.int .i64 k, .int .i64 b, .str d]] (.t [.inl (strsC (appB bs k b d)), .inr [.int .i64 (appE bs.length k b d), .str (appD bs k b d)]]) := by
  refine PSpec.rm ?_
  have fin : ∀ {B : List ByteArray} {E : Int} {D : ByteArray} {H : List O} {s : S}, appB bs k b d = B → appE bs.length k b d = E → appD bs k b d = D → RM 0 s H (.t [.inl (strsC B), .inr [.int .i64 E, .str D]]) [] → RM 0 s H (.t [.inl (strsC (appB bs k b d)), .inr [.int .i64 (appE bs.length k b d), .str (appD bs k b d)]]) [] := fun h1 h2 h3 h => by
    rw [h1, h2, h3]; exact h
  refine ov hΓ Tryz.func43 48 0 [.tmp 4, .cell 5 50] Tryz.ntmps43 Tryz.results43 ?_
  ((conv=>whnf);(repeat' ((first|refine Nd ?_|refine Hv fun _h=>?_);conv=>whnf)))
  refine CallN.autoQ [] clone_body (clone_spec bs hl) ?_; conv=>whnf
  ((conv=>whnf);(repeat' ((first|refine Nd ?_|refine Hv fun _h=>?_);conv=>whnf)))
  refine CallN.pureA cmd_body (cmd_spec bs.length k b d ) ?_
  ((conv=>whnf);(repeat' ((first|refine Nd ?_|refine Hv fun _h=>?_);conv=>whnf)))
  refine Br.of (fun h0=>?_) (fun h0=>?_)<;>(try simp only [Int.toNat_natCast] at h0)<;>(conv=>whnf)
  · ((conv=>whnf);(repeat' ((first|refine Nd ?_|refine Hv fun _h=>?_);conv=>whnf)))
    refine fin (by unfold appB; rw [if_pos h0]) rfl (by unfold appD; rw [if_pos h0]) ?_
    refine RM.fz 2 rfl (Nat.zero_le _) (fun _ _ _ _ => (by first | exact rfl | exact evCell_imm _ _ | exact zoneAt_imm _ _ _ | exact zoneAtT_imm _ _ _)) ?_; refine RM.wkW ?_ ?_ (Nat.zero_le _) <;> (first|exact wb0|refine wb1 ?_|refine wb2 ?_ ?_|refine wb3 ?_ ?_ ?_|refine wb4 ?_ ?_ ?_ ?_)
  · ((conv=>whnf);(repeat' ((first|refine Nd ?_|refine Hv fun _h=>?_);conv=>whnf)))
    obtain ⟨k1, k2, k3, k4⟩ := cmdV_kind h0
    refine Br.of (fun h1=>?_) (fun h1=>?_)<;>(try simp only [Int.toNat_natCast] at h1)<;>(conv=>whnf)
    · ((conv=>whnf);(repeat' ((first|refine Nd ?_|refine Hv fun _h=>?_);conv=>whnf)))
      refine Dr.mk hΓ hMix (by kernel_rfl) ?_; conv=>whnf
      ((conv=>whnf);(repeat' ((first|refine Nd ?_|refine Hv fun _h=>?_);conv=>whnf)))
      refine Frc.mk (.c (.str (bs.getD b.toNat ByteArray.empty))) rfl ?_
      ((conv=>whnf);(repeat' ((first|refine Nd ?_|refine Hv fun _h=>?_);conv=>whnf)))
      refine fin (by unfold appB; rw [if_neg (by omega), if_neg (by omega), if_neg (by omega)]) h0 (by unfold appD; rw [if_neg (by omega), if_pos h1]) ?_
      refine RM.fz 2 rfl (Nat.zero_le _) (fun _ _ _ _ => (by first | exact rfl | exact evCell_imm _ _ | exact zoneAt_imm _ _ _ | exact zoneAtT_imm _ _ _)) ?_; refine RM.wkW ?_ ?_ (Nat.zero_le _) <;> (first|exact wb0|refine wb1 ?_|refine wb2 ?_ ?_|refine wb3 ?_ ?_ ?_|refine wb4 ?_ ?_ ?_ ?_)
    · ((conv=>whnf);(repeat' ((first|refine Nd ?_|refine Hv fun _h=>?_);conv=>whnf)))
      refine Br.of (fun h2=>?_) (fun h2=>?_)<;>(try simp only [Int.toNat_natCast] at h2)<;>(conv=>whnf)
      · ((conv=>whnf);(repeat' ((first|refine Nd ?_|refine Hv fun _h=>?_);conv=>whnf)))
        refine fin (by unfold appB; rw [if_neg (by omega), if_pos h2]) h0 (by unfold appD; rw [if_neg (by omega), if_neg h1]) ?_
        refine RM.rg 2 rfl (fun i hi j hj => strs_set (f := bs) (by omega) hj) rfl ?_
        refine RM.fz 2 rfl (Nat.zero_le _) (fun _ _ _ _ => (by first | exact rfl | exact evCell_imm _ _ | exact zoneAt_imm _ _ _ | exact zoneAtT_imm _ _ _)) ?_; refine RM.wkW ?_ ?_ (Nat.zero_le _) <;> (first|exact wb0|refine wb1 ?_|refine wb2 ?_ ?_|refine wb3 ?_ ?_ ?_|refine wb4 ?_ ?_ ?_ ?_)
      · ((conv=>whnf);(repeat' ((first|refine Nd ?_|refine Hv fun _h=>?_);conv=>whnf)))
        refine Br.of (fun h3=>?_) (fun h3=>?_)<;>(try simp only [Int.toNat_natCast] at h3)<;>(conv=>whnf)
        · ((conv=>whnf);(repeat' ((first|refine Nd ?_|refine Hv fun _h=>?_);conv=>whnf)))
          refine Dr.mk hΓ hMix (by kernel_rfl) ?_; conv=>whnf
          ((conv=>whnf);(repeat' ((first|refine Nd ?_|refine Hv fun _h=>?_);conv=>whnf)))
          refine CallP.auto zero_body (zero_spec ) ?_
          ((conv=>whnf);(repeat' ((first|refine Nd ?_|refine Hv fun _h=>?_);conv=>whnf)))
          refine fin (by unfold appB; rw [if_neg (by omega), if_neg h2, if_pos h3]) h0 (by unfold appD; rw [if_neg (by omega), if_neg h1]) ?_
          refine RM.rg 2 rfl (fun i hi j hj => strs_set (f := bs) (by omega) hj) rfl ?_
          refine RM.fz 2 rfl (Nat.zero_le _) (fun _ _ _ _ => (by first | exact rfl | exact evCell_imm _ _ | exact zoneAt_imm _ _ _ | exact zoneAtT_imm _ _ _)) ?_; refine RM.wkW ?_ ?_ (Nat.zero_le _) <;> (first|exact wb0|refine wb1 ?_|refine wb2 ?_ ?_|refine wb3 ?_ ?_ ?_|refine wb4 ?_ ?_ ?_ ?_)
        · ((conv=>whnf);(repeat' ((first|refine Nd ?_|refine Hv fun _h=>?_);conv=>whnf)))
          refine fin (by unfold appB; rw [if_neg (by omega), if_neg h2, if_neg h3]) h0 (by unfold appD; rw [if_neg (by omega), if_neg h1]) ?_
          refine RM.fz 2 rfl (Nat.zero_le _) (fun _ _ _ _ => (by first | exact rfl | exact evCell_imm _ _ | exact zoneAt_imm _ _ _ | exact zoneAtT_imm _ _ _)) ?_; refine RM.wkW ?_ ?_ (Nat.zero_le _) <;> (first|exact wb0|refine wb1 ?_|refine wb2 ?_ ?_|refine wb3 ?_ ?_ ?_|refine wb4 ?_ ?_ ?_ ?_)
theorem apply_body : HasBody Tryz.prog 43 := hB Tryz.func43
end Go.Proofs
end
