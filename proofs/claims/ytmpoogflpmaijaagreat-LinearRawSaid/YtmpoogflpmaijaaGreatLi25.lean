/- Part of the proofs of laws of this seat: contracts and plain lemmas; no condition is added to a statement. -/
import Derived.Test.YtmpoogflpmaijaaGreatLi20
import Derived.Shelf.GgSortFunc.Whole
import Derived.Deep.QuietTactic
import Derived.BigQuiet
set_option linter.unusedSimpArgs false
set_option linter.unusedVariables false
open Go Go.Lib Go.Sort Go.RowKit
namespace Go.Proofs
/-! ### sort.Slice at numbers that are in order -/
set_option maxHeartbeats 2000000 in
theorem less_at (blk c B5 B3 b2 size : Nat) (W : World) (G : Nat → Int) (at_ : Int → Int) (h3 : W.cell? ⟨B3, 0, none⟩ = some (.slice (some ⟨blk, 0, none⟩) size c)) (h5 : W.cell? ⟨B5, 0, none⟩ = some (.map (some b2)))
    (hl : ∀ (q : Nat) (s : Int), (Instr.lookup 102 (.map (some b2)) (.int .i64 s) false).run Tryz.prog (W.drewN q) = .ok (.int .i64 (at_ s)) (W.drewN q))
    (hc : ∀ t, t < size → W.cell? ⟨blk, t, none⟩ = some (.int .i64 (G t))) (i j : Nat) (hi : i < size) (hj : j < size) :
    Calls Tryz.prog 64 #[.int .i64 i, .int .i64 j, .pointer (some ⟨B5, 0, none⟩), .pointer (some ⟨B3, 0, none⟩)] W fun e w' => e = .returned (.bool (decide (at_ (G i) < at_ (G j)))) ∧ ∃ q, w' = W.drewN q := by
  have ci := hc i hi
  have cj := hc j hj
  go_enter Tryz.func64, Tryz.ntmps64
  go_wp2
  go_quiet (fail)
  go_wp2
  go_ret
  exact ⟨rfl, nq, rfl⟩
def ltAt (at_ : Int → Int) (a b : Int) : Bool := decide (at_ a < at_ b)
theorem swo_at (at_ : Int → Int) : SWO (ltAt at_) := by
  refine ⟨fun x => ?_, fun x y z h1 h2 => ?_, fun x y z h1 h2 => ?_⟩
  · simp [ltAt]
  · simp only [ltAt, decide_eq_true_eq] at *; omega
  · simp only [ltAt, decide_eq_false_iff_not] at *; omega
theorem perm_inc {at_ : Int → Int} : ∀ {a b : List Int}, a.Perm b → a.Pairwise (fun x y => at_ x ≤ at_ y) → b.Pairwise (fun x y => at_ x < at_ y) → a = b
  | a, [], h, _, _ => h.eq_nil
  | [], y :: b, h, _, _ => by have := h.length_eq; simp at this
  | x :: a, y :: b, h, ha, hb => by
    rw [List.pairwise_cons] at ha hb
    have e : x = y := by
      rcases List.mem_cons.1 (h.mem_iff.2 (List.mem_cons_self (a := y) (l := b))) with q | q
      · exact q.symm
      · rcases List.mem_cons.1 (h.mem_iff.1 (List.mem_cons_self (a := x) (l := a))) with q' | q'
        · exact q'
        · have := ha.1 y q
          have := hb.1 x q'
          omega
    subst e
    rw [perm_inc ((List.perm_cons x).1 h) ha.2 hb.2]
theorem siK (n : Nat) (h2 : 2 ≤ n) : Lib.swapperK n siE 2 = 5 := by
  have a : siE.hasPointers = false := by kernel_rfl
  have b : siE.bytes = 8 := by kernel_rfl
  have c : (n == 0) = false := by simp; omega
  have d : (n == 1) = false := by simp; omega
  simp [Lib.swapperK, a, b, c, d]
set_option maxHeartbeats 2000000 in
theorem sort_inc (at_ : Int → Int) (blk c B5 B3 b2 : Nat) (d : Array Int) (h2 : 2 ≤ d.size) (hsz : d.size < 4611686018427387904) (w : World) (hH : Holds (Value.int .i64) w blk 0 d) (hblk : blk < w.heap.size)
    (n3 : B3 ≠ blk) (n5 : B5 ≠ blk) (n2 : b2 ≠ blk) (l3 : B3 < w.heap.size) (l5 : B5 < w.heap.size) (l2 : b2 < w.heap.size)
    (h3 : w.cell? ⟨B3, 0, none⟩ = some (.slice (some ⟨blk, 0, none⟩) d.size c)) (h5 : w.cell? ⟨B5, 0, none⟩ = some (.map (some b2)))
    (hl : ∀ W : World, W.heap[b2]? = w.heap[b2]? → ∀ s : Int, (Instr.lookup 102 (.map (some b2)) (.int .i64 s) false).run Tryz.prog W = .ok (.int .i64 (at_ s)) W)
    (hd : d.toList.Pairwise fun x y => at_ x < at_ y) :
    Calls Tryz.prog 63 #[.iface 22 (.slice (some ⟨blk, 0, none⟩) d.size c), .func (.func 64) #[] #[.pointer (some ⟨B5, 0, none⟩), .pointer (some ⟨B3, 0, none⟩)]] w fun e w' => e = .returned (.tuple #[]) ∧ w.grownBy w' none := by
  have hless : LessReads Tryz.prog 64 #[.pointer (some ⟨B5, 0, none⟩), .pointer (some ⟨B3, 0, none⟩)] (Value.int .i64) (ltAt at_) blk 0 d.size w := by
    intro m os dk hs i j hi hj
    have e : sortWorld (Value.int .i64) w blk 0 m dk os = putRow (Value.int .i64) (grow (Sort.ahead w m) os) blk 0 dk := by
      unfold sortWorld; rw [putRow_grow _ (Sort.ahead w m) _ blk 0 _ hblk]
    have hHg : Holds (Value.int .i64) (grow (Sort.ahead w m) os) blk 0 d := holds_grow _ _ _ blk 0 d hblk (holds_ahead _ _ _ _ _ _ hH)
    have other : ∀ a : Addr, a.block ≠ blk → a.block < w.heap.size → (sortWorld (Value.int .i64) w blk 0 m dk os).cell? a = w.cell? a := fun a h1 h2 => by
      rw [e, cell?_putRow_other _ _ blk 0 dk _ (Or.inl h1), cell?_grow (Sort.ahead w m) os a h2]; rfl
    have hb2 : (sortWorld (Value.int .i64) w blk 0 m dk os).heap[b2]? = w.heap[b2]? := by
      rw [e]
      simp only [putRow, mapBlock, Array.getElem?_modify, if_neg (Ne.symm n2)]
      simp [grow, Sort.ahead, Array.getElem?_append_left l2]
    generalize sortWorld (Value.int .i64) w blk 0 m dk os = W at e other hb2 ⊢
    refine less_at blk c B5 B3 b2 d.size W (fun t => dk[t]!) at_ ?_ ?_ (fun q s => hl (W.drewN q) hb2 s) (fun t ht => ?_) i j hi hj
    · rw [other _ n3 l3]; exact h3
    · rw [other _ n5 l5]; exact h5
    · rw [e]
      have := cell?_putRow (Value.int .i64) (grow (Sort.ahead w m) os) blk 0 d dk hHg hs t (by omega)
      rwa [Nat.zero_add] at this
  have hS := Any.sort_Slice_sorted Tryz.laySlice 22 3 siT siE (by kernel_rfl) (by kernel_rfl) (by kernel_rfl) (by kernel_rfl) 2 (fun _ => by kernel_rfl) (by kernel_rfl) (fun _ => by kernel_rfl) (Value.int .i64) (fun _ => rfl) (ltAt at_) (swo_at at_) 64 _
    (enters_of Tryz.func64 (by kernel_rfl) rfl) blk 0 c d h2 hsz (63 + 30) (by rw [siK _ h2]; kernel_rfl) true
    (fun args W => run_callFunc_extern Tryz.func93 (by kernel_rfl) (by kernel_rfl) (by kernel_rfl) (e := Extern.ReflectliteSwapper.swap true) (by kernel_rfl) args W) _ hless hH hblk
  change Calls Tryz.prog 63 _ _ _ at hS
  refine hS.mono ?_
  rintro e w' ⟨rfl, d', n, os, ⟨p1, p2, p3⟩, so, rfl⟩
  have e1 : d'.extract 0 d.size = d' := by rw [← p1]; exact Array.extract_size
  have e2 : d.extract 0 d.size = d := Array.extract_size
  rw [e1, e2] at p3
  have hdd : d' = d := by
    refine Array.toList_inj.1 (perm_inc p3 ?_ hd)
    rw [List.pairwise_iff_getElem]
    intro i j hi hj hij
    have := so i j (Nat.zero_le _) hij (by rw [← p1]; simpa using hj)
    simp only [ltAt, decide_eq_false_iff_not] at this
    rw [getElem!_pos d' j (by simpa using hj), getElem!_pos d' i (by simpa using hi)] at this
    simp only [Array.getElem_toList]
    omega
  subst hdd
  rw [putRow_self _ _ _ _ _ (holds_ahead _ _ n _ _ _ hH)]
  refine ⟨rfl, rfl, rfl, rfl, by simp [grow, Sort.ahead], fun k hk _ => by simp [grow, Sort.ahead, Array.getElem?_append_left hk]⟩
end Go.Proofs
