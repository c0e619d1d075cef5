/- Contracts, lemmas; no condition. -/
import Derived.Test.YtjjlblnbeggejaaGreatA26
import Derived.Below
import Derived.Sort.Row
import Derived.Sort.Grow
set_option linter.all false
namespace Go.Am
open Go.Sort
theorem Qwx {P : Program} {f : FuncId} {args : List S} {r : S}
  (h : ∀ F μ w vs, RepA F [] μ args vs → ∃ v, (∀ F' μ', RepS F' [] μ' r v) ∧ Calls P f vs w fun e w' => e = .returned v ∧ Go.RowKit.Below w.heap.size w w') : PSpec P f args r := by
 intro K F μ w vs hw hA
 have hnil : ∀ i o, getL ([] : List O) i = some o → False := fun i o e => by simp [getL] at e
 obtain ⟨v, v1, v2⟩ := h F μ w vs hA
 refine v2.mono ?_
 rintro e w' ⟨rfl, hb⟩
 have hh : ∀ (b : Nat) (o : Obj), w.heap[b]? = some o → w'.heap[b]? = some o := fun b o e => by
  rw [hb.block b (Array.getElem?_eq_some_iff.1 e).1]; exact e
 exact ⟨v, F, μ, r, [], rfl, Mem.le_refl F, hw.later hb.os hb.tape hb.output hh, Ext.refl [] μ, v1 F μ, rfl⟩
def strG (l : List ByteArray) : Nat → Nat → C := fun i _ => .str (l.getD i ByteArray.empty)
theorem CSpec.row {P : Program} {f : FuncId} {e n : Nat} {ss ss' : List ByteArray} {s0 : S} {α : Type} [Inhabited α] {enc : α → Value} {d d' : Array α} {res : Nat → Nat → Value} (hn : 0 < n) (hd : d.size = n) (hd' : d'.size = n)
  (h1 : ∀ j, j < n → enc d[j]! = .string (ss.getD j ByteArray.empty)) (h2 : ∀ j, j < n → enc d'[j]! = .string (ss'.getD j ByteArray.empty))
  (hm : (∀ j, j < n → (ss.getD j ByteArray.empty).size ≤ maxLen) → ∀ j, j < n → (ss'.getD j ByteArray.empty).size ≤ maxLen)
  (hr : ∀ F μ b cap, μ 0 = .slice (some ⟨b, 0, none⟩) n cap → RepS F [.arr e 1 n (strG ss')] μ s0 (res b cap))
  (hc : ∀ b cap w, Holds enc w b 0 d → b < w.heap.size → n ≤ cap → cap ≤ maxLen → Calls P f #[.slice (some ⟨b, 0, none⟩) n cap] w fun ex w' => ex = .returned (res b cap) ∧ ∃ q os, w' = grow (putRow enc (Go.Sort.ahead w q) b 0 d') os) :
  CSpec P f [.c (.sl 0 1 n n false)] [.arr e 1 n (strG ss)] fun s H => s = s0 ∧ H = [.arr e 1 n (strG ss')] := by
 intro K F μ w vs hw hA
 have h0 : getL [O.arr e 1 n (strG ss)] 0 = some (.arr e 1 n (strG ss)) := rfl
 obtain ⟨xs, ⟨x1, x2⟩, x3, x4, x5⟩ := hw.ob 0 _ h0
 rcases x2 with ⟨_, q⟩ | ⟨b, cap, cur, q1, q2, q3, q4, q5, q6, q7⟩
 ·omega
 obtain ⟨v, v1, v2⟩ := hA.2 0 _ rfl
 obtain ⟨_, e', n', g', y1, y2, y3, y4⟩ := v2
 have en : n' = n := by
  rw [h0] at y1
  cases y1; rfl
 obtain ⟨a, cap', z1, z2, -⟩ := y4 en.symm
 rw [q1, en] at z1
 cases z1
 have hvs : vs = #[.slice (some ⟨b, 0, none⟩) n cap] := by
  apply Array.ext_getElem?
  intro j
  match j with
  | 0 => rw [v1, z2]; rfl
  | j + 1 =>
   rw [Array.getElem?_eq_none (by rw [hA.1]; simp), Array.getElem?_eq_none (by simp)]
 subst hvs
 have hblt : b < w.heap.size := (Array.getElem?_eq_some_iff.1 q3).1
 have hcur : ∀ j, j < n → cur[j]? = some (Value.string (ss.getD j ByteArray.empty)) ∧ (ss.getD j ByteArray.empty).size ≤ maxLen := by
  intro j hj
  obtain ⟨u, u1, u2⟩ := x4 j hj 0 om
  rw [← q7, Nat.mul_one, Nat.mul_one, Nat.add_zero, List.getElem?_take_of_lt hj] at u1
  obtain ⟨u3, u4⟩ : u = .string (ss.getD j ByteArray.empty) ∧ (ss.getD j ByteArray.empty).size ≤ maxLen := u2
  rw [u3] at u1
  exact ⟨by simpa using u1, u4⟩
 have hold : Holds enc w b 0 d := by
  intro j hj
  rw [hd] at hj
  refine ⟨?_, ?_⟩
  ·rw [h1 j hj]
   unfold World.cell?
   simp only [q3, Nat.zero_add]
   simpa using (hcur j hj).1
  ·unfold World.frozen?
   simp [q3]
 refine (hc b cap w hold hblt q4 q5).mono ?_
 rintro ex w' ⟨rfl, q, os, rfl⟩
 have hb' : (grow (putRow enc (Go.Sort.ahead w q) b 0 d') os).heap[b]? = some (.cells (putCells enc 0 d' cur) e (0, 0)) := by
  show ((w.heap.modify b (onCells (putCells enc 0 d'))) ++ os)[b]? = _
  rw [Array.getElem?_append_left (by simpa using hblt), Array.getElem?_modify, if_pos rfl, q3]
  rfl
 have hg : w.grownBy (grow (putRow enc (Go.Sort.ahead w q) b 0 d') os) (some b) := by
  refine ⟨rfl, rfl, rfl, ?_, fun k hk hne => ?_⟩
  ·show w.heap.size ≤ ((w.heap.modify b (onCells (putCells enc 0 d'))) ++ os).size
   simp
  ·show ((w.heap.modify b (onCells (putCells enc 0 d'))) ++ os)[k]? = _
   rw [Array.getElem?_append_left (by simpa using hk), Array.getElem?_modify, if_neg (fun e => hne (by rw [e]))]
 have hone : ∀ x ∈ (putCells enc 0 d' cur).toList, x.oneCell' = true := by
  intro x hx
  obtain ⟨i, hi, rfl⟩ := List.getElem_of_mem hx
  have hi2 : i < cur.size := by simpa [putCells] using hi
  have ee : (putCells enc 0 d' cur).toList[i] = if i < n then enc d'[i]! else cur[i] := by
   simp [putCells, hd']
  rw [ee]
  split
  ·rename_i hin; rw [h2 i hin]; rfl
  ·exact x5 b cur e (0, 0) (by rw [q1]; rfl) q3 _ (Array.getElem_mem_toList hi2)
 have hst := hw.step (H' := [.arr e 1 n (strG ss')]) (w' := grow (putRow enc (Go.Sort.ahead w q) b 0 d') os) 0 (.arr e 1 n (strG ss')) (μ 0) rfl (fun i hi => by
   cases i with
   | zero => exact absurd rfl hi
   | succ i => rfl) (by rw [Qy]; exact Qhl h0 rfl) (row := some b) hg (fun k hk => by cases hk; exact ⟨⟨_, h0, by simp⟩, by rw [q1]; rfl⟩) (fun b' hb => .inl ⟨⟨_, h0, by simp⟩, hb⟩) (by
   rw [Qy]
   refine ⟨(putCells enc 0 d' cur).toList.take (n * 1), ⟨?_, .inr ⟨b, cap, putCells enc 0 d' cur, q1, Nat.zero_le _, hb', q4, q5, ?_, rfl⟩⟩, x3, fun i hi j hj => ?_, Sp.of (by rw [q1]; rfl) hb' hone⟩
   ·rw [List.length_take]
    unfold putCells
    simp [q6]; omega
   ·unfold putCells
    simpa using q6
   ·have : j = 0 := by omega
    subst this
    refine ⟨.string (ss'.getD i ByteArray.empty), ?_, rfl, hm (fun j hj => (hcur j hj).2) i hi⟩
    rw [Nat.mul_one, Nat.mul_one, Nat.add_zero, List.getElem?_take_of_lt hi]
    have hi2 : i < cur.size := by rw [q6]; omega
    unfold putCells
    simp only [Array.getElem?_toList, Array.getElem?_mapIdx]
    rw [Array.getElem?_eq_getElem hi2]
    simp only [Option.map_some, Nat.zero_le, Nat.zero_add, true_and, Nat.sub_zero, hd']
    rw [if_pos hi, h2 i hi])
 rw [Qy] at hst
 exact ⟨_, F, μ, s0, _, rfl, Mem.le_refl F, hst, Qhl h0 rfl, hr F μ b cap q1, rfl, rfl⟩
end Go.Am
