/- Part of the proofs of laws of this seat: contracts and plain lemmas; no condition is added to a statement. -/
import Derived.Test.YtbahpfnjjkoboaaHistCX
set_option linter.unusedSimpArgs false
set_option linter.unusedVariables false
section
open Go Go.Am
namespace Go.Proofs
theorem bytesLess_lt : ∀ (x y : List UInt8), Op.bytesLess x y = decide (x < y)
  | [], [] => by simp [Op.bytesLess]
  | _ :: _, [] => by simp [Op.bytesLess]
  | [], _ :: _ => by simp [Op.bytesLess]
  | a :: x, b :: y => by
    rw [Op.bytesLess, bytesLess_lt x y, Bool.eq_iff_iff]
    simp [List.cons_lt_cons_iff]
theorem toListD (b : ByteArray) : b.toList = b.data.toList := by
  rw [ByteArray.toList_eq]
theorem strLt_eq (a b : ByteArray) : strLt a b = decide (a.data.toList < b.data.toList) := by
  unfold strLt
  rw [bytesLess_lt, toListD, toListD]
theorem bytes_ext {a b : ByteArray} (h : a.data.toList = b.data.toList) : a = b := by
  cases a; cases b
  simp only [ByteArray.mk.injEq]
  exact Array.toList_inj.1 h
theorem strLt_irrefl (a : ByteArray) : strLt a a = false := by
  rw [strLt_eq]
  simp [List.lt_irrefl]
theorem strLt_trans {a b c : ByteArray} (h : strLt a b = true) (k : strLt b c = true) : strLt a c = true := by
  rw [strLt_eq, decide_eq_true_eq] at *
  exact List.lt_trans h k
theorem strLt_tri {a b : ByteArray} (h : strLt a b = false) (k : a ≠ b) : strLt b a = true := by
  rw [strLt_eq] at *
  simp only [decide_eq_false_iff_not, decide_eq_true_eq] at *
  have h1 : b.data.toList ≤ a.data.toList := List.not_lt.1 h
  rcases Decidable.em (b.data.toList < a.data.toList) with c | c
  · exact c
  · exact absurd (bytes_ext (List.le_antisymm (List.not_lt.1 c) h1)) k
theorem strLt_asymm {a b : ByteArray} (h : strLt a b = true) : strLt b a = false := by
  cases c : strLt b a with
  | false => rfl
  | true =>
    have := strLt_trans h c
    rw [strLt_irrefl] at this
    cases this
/-- A list that ascends. -/
def asc (l : List ByteArray) : Prop := l.Pairwise fun a b => strLt a b = true
theorem asc_ext : ∀ {a b : List ByteArray}, asc a → asc b → (∀ x, x ∈ a ↔ x ∈ b) → a = b
  | [], [], _, _, _ => rfl
  | [], y :: b, _, _, h => by have := (h y).2 (by simp); simp at this
  | x :: a, [], _, _, h => by have := (h x).1 (by simp); simp at this
  | x :: a, y :: b, ha, hb, h => by
    simp only [asc, List.pairwise_cons] at ha hb
    have e : x = y := by
      rcases List.mem_cons.1 ((h x).1 (by simp)) with c | c
      · exact c
      · rcases List.mem_cons.1 ((h y).2 (by simp)) with d | d
        · exact d.symm
        · have h1 := hb.1 x c
          have h2 := ha.1 y d
          rw [strLt_asymm h1] at h2
          cases h2
    subst e
    congr 1
    refine asc_ext ha.2 hb.2 fun z => ?_
    have hx : ∀ {l : List ByteArray}, (∀ w ∈ l, strLt x w = true) → x ∉ l := fun hl hm => by
      have := hl x hm
      rw [strLt_irrefl] at this
      cases this
    constructor
    · intro hz
      rcases List.mem_cons.1 ((h z).1 (List.mem_cons_of_mem _ hz)) with c | c
      · subst c; exact absurd hz (hx ha.1)
      · exact c
    · intro hz
      rcases List.mem_cons.1 ((h z).2 (List.mem_cons_of_mem _ hz)) with c | c
      · subst c; exact absurd hz (hx hb.1)
      · exact c
/-- Where a text goes in an ascending list. -/
def scanM (l : List ByteArray) (v : ByteArray) : Nat → Option Nat
  | 0 => some 0
  | k + 1 => if strLt (l.getD k ByteArray.empty) v = true then some (k + 1) else if l.getD k ByteArray.empty = v then none else scanM l v k
def putM (l : List ByteArray) (v : ByteArray) : List ByteArray := match scanM l v l.length with
  | none => l
  | some k => l.take k ++ v :: l.drop k
theorem scanM_none {l : List ByteArray} {v : ByteArray} : ∀ k, k ≤ l.length → scanM l v k = none → v ∈ l
  | 0, _, h => by simp [scanM] at h
  | k + 1, hk, h => by
    simp only [scanM] at h
    split at h
    · cases h
    · split at h
      · rename_i e
        have : l.getD k ByteArray.empty = l[k] := by simp [List.getD, (by omega : k < l.length)]
        rw [this] at e
        subst e
        exact List.getElem_mem _
      · exact scanM_none k (by omega) h
theorem scanM_some {l : List ByteArray} {v : ByteArray} (h : asc l) : ∀ k n, k ≤ l.length → scanM l v k = some n → n ≤ k ∧ (∀ x ∈ l.take n, strLt x v = true) ∧ ∀ i, n ≤ i → i < k → strLt v (l.getD i ByteArray.empty) = true
  | 0, n, _, e => by
    simp only [scanM, Option.some.injEq] at e
    subst e
    exact ⟨Nat.le_refl _, by simp, fun i _ h => by omega⟩
  | k + 1, n, hk, e => by
    have hg : ∀ i, i < l.length → l.getD i ByteArray.empty = l.getD i default := fun i _ => rfl
    have ek : l.getD k ByteArray.empty = l[k] := by simp [List.getD, (by omega : k < l.length)]
    simp only [scanM] at e
    split at e
    · rename_i hlt
      cases e
      refine ⟨Nat.le_refl _, fun x hx => ?_, fun i h1 h2 => by omega⟩
      rw [ek] at hlt
      rw [List.take_succ_eq_append_getElem (by omega)] at hx
      rcases List.mem_append.1 hx with c | c
      · obtain ⟨j, hj, rfl⟩ := List.getElem_of_mem c
        rw [List.length_take] at hj
        rw [List.getElem_take]
        unfold asc at h
        rw [List.pairwise_iff_getElem] at h
        exact strLt_trans (h j k (by omega) (by omega) (by omega)) hlt
      · rw [List.mem_singleton] at c
        subst c
        exact hlt
    · rename_i hlt
      split at e
      · cases e
      · rename_i hne
        obtain ⟨h1, h2, h3⟩ := scanM_some h k n (by omega) e
        refine ⟨by omega, h2, fun i h4 h5 => ?_⟩
        by_cases c : i = k
        · subst c
          exact strLt_tri (by simpa using hlt) hne
        · exact h3 i h4 (by omega)
theorem putM_asc {l : List ByteArray} {v : ByteArray} (h : asc l) : asc (putM l v) ∧ ∀ x, x ∈ putM l v ↔ x ∈ l ∨ x = v := by
  unfold putM
  cases e : scanM l v l.length with
  | none =>
    have := scanM_none _ (Nat.le_refl _) e
    exact ⟨h, fun x => ⟨fun hx => .inl hx, fun hx => hx.elim id fun q => q ▸ this⟩⟩
  | some k =>
    obtain ⟨h1, h2, h3⟩ := scanM_some h _ _ (Nat.le_refl _) e
    have h4 : ∀ x ∈ l.drop k, strLt v x = true := by
      intro x hx
      obtain ⟨j, hj, rfl⟩ := List.getElem_of_mem hx
      rw [List.length_drop] at hj
      have := h3 (k + j) (by omega) (by omega)
      rw [List.getElem_drop]
      simpa [List.getD, (by omega : k + j < l.length)] using this
    refine ⟨?_, fun x => ?_⟩
    · unfold asc at h ⊢
      rw [List.pairwise_append, List.pairwise_cons]
      refine ⟨h.sublist (List.take_sublist k l), ⟨h4, h.sublist (List.drop_sublist k l)⟩, fun a ha b hb => ?_⟩
      rcases List.mem_cons.1 hb with c | c
      · subst c; exact h2 a ha
      · exact strLt_trans (h2 a ha) (h4 b c)
    · simp only [List.mem_append, List.mem_cons]
      have : x ∈ l ↔ x ∈ l.take k ∨ x ∈ l.drop k := by rw [← List.mem_append, List.take_append_drop]
      rw [this]
      constructor
      · rintro (q | q | q)
        · exact .inl (.inl q)
        · exact .inr q
        · exact .inl (.inr q)
      · rintro ((q | q) | q)
        · exact .inl q
        · exact .inr (.inr q)
        · exact .inr (.inl q)
def putAll (l : List ByteArray) : List ByteArray := l.foldl putM []
theorem putAll_snoc (l : List ByteArray) (v : ByteArray) : putAll (l ++ [v]) = putM (putAll l) v := by simp [putAll, List.foldl_append]
theorem foldl_put : ∀ (l acc : List ByteArray), asc acc → asc (l.foldl putM acc) ∧ ∀ x, x ∈ l.foldl putM acc ↔ x ∈ acc ∨ x ∈ l
  | [], acc, h => ⟨h, by simp⟩
  | v :: l, acc, h => by
    obtain ⟨h1, h2⟩ := foldl_put l (putM acc v) (putM_asc h).1
    refine ⟨h1, fun x => ?_⟩
    rw [List.foldl_cons, h2, (putM_asc h).2, List.mem_cons, or_assoc]
theorem putAll_asc (l : List ByteArray) : asc (putAll l) := (foldl_put l [] List.Pairwise.nil).1
theorem mem_putAll {l : List ByteArray} {x : ByteArray} : x ∈ putAll l ↔ x ∈ l := by
  have := (foldl_put l [] List.Pairwise.nil).2 x
  simpa [putAll] using this
theorem putAll_eq {a b : List ByteArray} (h : ∀ x, x ∈ a ↔ x ∈ b) : putAll a = putAll b :=
  asc_ext (putAll_asc a) (putAll_asc b) fun x => by rw [mem_putAll, mem_putAll, h]
theorem putM_len (l : List ByteArray) (v : ByteArray) : (putM l v).length ≤ l.length + 1 := by
  unfold putM
  split
  · omega
  · simp; omega
theorem putAll_len (l : List ByteArray) : (putAll l).length ≤ l.length := by
  have : ∀ (l acc : List ByteArray), (l.foldl putM acc).length ≤ acc.length + l.length := by
    intro l
    induction l with
    | nil => intro acc; simp
    | cons v l ih =>
      intro acc
      have := ih (putM acc v)
      have := putM_len acc v
      simp only [List.foldl_cons, List.length_cons]
      omega
  simpa [putAll] using this l []
end Go.Proofs
end

section
open Go Go.Am
namespace Go.Proofs
def zeroB : ByteArray := ⟨#[0, 0, 0, 0, 0, 0, 0, 0, 0, 0, 0, 0, 0, 0, 0, 0]⟩
theorem zero15_spec : PSpec Try.prog 41 [] (.c (.str zeroB)) := by
  refine PSpec.rm ?_
  refine CSpec.of_vc hΓ Try.func41 rfl 3 0 [.tmp 0] Try.ntmps41 rfl (by rw [Try.results41]) rfl ?_
  conv => whnf
  repeat' ((first | refine Need.auto ?_ | refine Have.mk (fun _h => ?_)); conv => whnf)
  refine Need.mk (fun i _ => ⟨0, rfl⟩) ?_
  conv => whnf
  repeat' ((first | refine Need.auto ?_ | refine Have.mk (fun _h => ?_)); conv => whnf)
  refine RM.immW rfl ?_; (repeat' (first | exact WA.nil | refine WA.cons rfl ?_ ?_ | exact WB.nil | refine WB.cons ?_ ?_ | exact WT.nil | refine WT.cons ?_ ?_ | exact WH.nil | refine WH.cons ?_ ?_ | exact WR.nil | refine WR.cons rfl ?_ ?_ | refine WO.vr ?_ | exact WO.dead | exact WO.mpS | refine WO.mpA ?_ | refine WO.arrA ?_ | exact WS.u | refine WS.c ?_ | refine WS.a ?_ | refine WS.t ?_ | exact WL.nil | refine WL.cons ?_ ?_ | exact WTL.nil | refine WTL.consC ?_ ?_ | refine WTL.consL ?_ ?_ | exact WC.nils | exact WC.nil rfl | exact WC.nilp | refine WC.fzA | exact WC.ptr rfl (Nat.le_of_ble_eq_true rfl) | exact WC.mpr rfl (Nat.le_of_ble_eq_true rfl) | refine WC.slA | refine WC.intA | refine WC.int ?_ | refine WC.boolA | refine WC.bool ?_ | refine WC.strA | refine WC.str ?_ | exact WC.imm rfl))
theorem zero15_body : HasBody Try.prog 41 := ⟨⟨Try.f41, Try.func41, rfl, by kernel_rfl⟩⟩
def valueM (e : Evt) : ByteArray := if e.kind = 3 then zeroB else e.data
theorem value20_spec (e : Evt) : PSpec Try.prog 55 [.a [.int .i64 e.kind, .int .i64 e.block, .str e.data]] (.c (.str (valueM e))) := by
  refine PSpec.rm ?_
  refine CSpec.of_vc hΓ Try.func55 rfl 9 0 [.tmp 2] Try.ntmps55 rfl (by rw [Try.results55]) rfl ?_
  conv => whnf
  repeat' ((first | refine Need.auto ?_ | refine Have.mk (fun _h => ?_)); conv => whnf)
  (first | refine Br.lt (fun h0 => ?_) (fun h0 => ?_) | refine Br.le (fun h0 => ?_) (fun h0 => ?_) | refine Br.gt (fun h0 => ?_) (fun h0 => ?_) | refine Br.ge (fun h0 => ?_) (fun h0 => ?_) | refine Br.eq (fun h0 => ?_) (fun h0 => ?_) | refine Br.ne (fun h0 => ?_) (fun h0 => ?_) | refine Br.not (fun h0 => ?_) (fun h0 => ?_) | refine Br.mk (fun h0 => ?_) (fun h0 => ?_)) <;> (try simp only [Int.toNat_natCast] at h0) <;> (conv => whnf)
  · repeat' ((first | refine Need.auto ?_ | refine Have.mk (fun _h => ?_)); conv => whnf)
    refine CallN.pureA zero15_body (zero15_spec ) ?_
    conv => whnf
    repeat' ((first | refine Need.auto ?_ | refine Have.mk (fun _h => ?_)); conv => whnf)
    have : valueM e = zeroB := by unfold valueM; rw [if_pos h0]
    rw [this]
    refine RM.immW rfl ?_; (repeat' (first | exact WA.nil | refine WA.cons rfl ?_ ?_ | exact WB.nil | refine WB.cons ?_ ?_ | exact WT.nil | refine WT.cons ?_ ?_ | exact WH.nil | refine WH.cons ?_ ?_ | exact WR.nil | refine WR.cons rfl ?_ ?_ | refine WO.vr ?_ | exact WO.dead | exact WO.mpS | refine WO.mpA ?_ | refine WO.arrA ?_ | exact WS.u | refine WS.c ?_ | refine WS.a ?_ | refine WS.t ?_ | exact WL.nil | refine WL.cons ?_ ?_ | exact WTL.nil | refine WTL.consC ?_ ?_ | refine WTL.consL ?_ ?_ | exact WC.nils | exact WC.nil rfl | exact WC.nilp | refine WC.fzA | exact WC.ptr rfl (Nat.le_of_ble_eq_true rfl) | exact WC.mpr rfl (Nat.le_of_ble_eq_true rfl) | refine WC.slA | refine WC.intA | refine WC.int ?_ | refine WC.boolA | refine WC.bool ?_ | refine WC.strA | refine WC.str ?_ | exact WC.imm rfl))
  · repeat' ((first | refine Need.auto ?_ | refine Have.mk (fun _h => ?_)); conv => whnf)
    have : valueM e = e.data := by unfold valueM; rw [if_neg h0]
    rw [this]
    refine RM.immW rfl ?_; (repeat' (first | exact WA.nil | refine WA.cons rfl ?_ ?_ | exact WB.nil | refine WB.cons ?_ ?_ | exact WT.nil | refine WT.cons ?_ ?_ | exact WH.nil | refine WH.cons ?_ ?_ | exact WR.nil | refine WR.cons rfl ?_ ?_ | refine WO.vr ?_ | exact WO.dead | exact WO.mpS | refine WO.mpA ?_ | refine WO.arrA ?_ | exact WS.u | refine WS.c ?_ | refine WS.a ?_ | refine WS.t ?_ | exact WL.nil | refine WL.cons ?_ ?_ | exact WTL.nil | refine WTL.consC ?_ ?_ | refine WTL.consL ?_ ?_ | exact WC.nils | exact WC.nil rfl | exact WC.nilp | refine WC.fzA | exact WC.ptr rfl (Nat.le_of_ble_eq_true rfl) | exact WC.mpr rfl (Nat.le_of_ble_eq_true rfl) | refine WC.slA | refine WC.intA | refine WC.int ?_ | refine WC.boolA | refine WC.bool ?_ | refine WC.strA | refine WC.str ?_ | exact WC.imm rfl))
theorem value20_body : HasBody Try.prog 55 := ⟨⟨Try.f55, Try.func55, rfl, by kernel_rfl⟩⟩
theorem strs_get {l : List ByteArray} (i : Nat) : l.getD i ByteArray.empty = l.getD i default := rfl
theorem put_rows {l : List ByteArray} {v : ByteArray} {k : Nat} (hk : k ≤ l.length) {g0 : Nat → Nat → C} {t : List C} {i j : Nat} (hi : i < 0 + k + 1 + (l.length - k)) (hj : j < 1) :
    appG (appG (appG g0 0 fun i _ => C.str (l.getD i ByteArray.empty)) (0 + k) (flatG 1 (C.str v :: t))) (0 + k + 1) (fun i j => (fun i (_ : Nat) => C.str (l.getD i ByteArray.empty)) (k + i) j) i j = .str ((l.take k ++ v :: l.drop k).getD i ByteArray.empty) := by
  have hj0 : j = 0 := by omega
  subst hj0
  simp only [appG, Nat.zero_add]
  by_cases c1 : i < k + 1
  · rw [if_pos c1]
    by_cases c2 : i < k
    · rw [if_pos c2, if_neg (by omega)]
      congr 1
      simp [List.getD, List.getElem?_append, List.getElem?_take, c2, (by omega : i < l.length), Nat.min_eq_left hk]
    · have : i = k := by omega
      subst this
      rw [if_neg (by omega)]
      simp only [Nat.sub_self, flatG, Nat.zero_mul, Nat.add_zero, lget, getL]
      congr 1
      simp [List.getD, List.getElem?_append, List.length_take, Nat.min_eq_left hk]
  · rw [if_neg c1]
    congr 1
    have e : i = k + ((i - (k + 1)) + 1) := by omega
    simp only [List.getD]
    rw [List.getElem?_append_right (by rw [List.length_take]; omega)]
    rw [List.length_take, Nat.min_eq_left hk]
    rw [show i - k = (i - (k + 1)) + 1 by omega, List.getElem?_cons_succ, List.getElem?_drop]
theorem put_spec (l : List ByteArray) (v : ByteArray) (hl : l.length ≤ 100000) : PSpec Try.prog 74 [.c (strsC l), .c (.str v)] (.c (strsC (putM l v))) := by
  refine PSpec.rm ?_
  refine CSpec.of_vc hΓ Try.func74 rfl 44 0 [.tmp 4] Try.ntmps74 rfl (by rw [Try.results74]) rfl ?_
  conv => whnf
  repeat' ((first | refine Need.auto ?_ | refine Have.mk (fun _h => ?_)); conv => whnf)
  refine Lp.mkK hΓ (ι := Nat) [0, 1] (fun i => [(5, .c (.int .i64 i))]) (fun i => []) (fun i => i ≤ l.length ∧ scanM l v l.length = scanM l v i) (fun i => i) l.length ⟨Nat.le_refl _, rfl⟩ ?_ ?_
  · refine Mv.mkW ?_ ?_ (Nat.le_of_ble_eq_true rfl) <;> (repeat' (first | exact WA.nil | refine WA.cons rfl ?_ ?_ | exact WB.nil | refine WB.cons ?_ ?_ | exact WT.nil | refine WT.cons ?_ ?_ | exact WH.nil | refine WH.cons ?_ ?_ | exact WR.nil | refine WR.cons rfl ?_ ?_ | refine WO.vr ?_ | exact WO.dead | exact WO.mpS | refine WO.mpA ?_ | refine WO.arrA ?_ | exact WS.u | refine WS.c ?_ | refine WS.a ?_ | refine WS.t ?_ | exact WL.nil | refine WL.cons ?_ ?_ | exact WTL.nil | refine WTL.consC ?_ ?_ | refine WTL.consL ?_ ?_ | exact WC.nils | exact WC.nil rfl | exact WC.nilp | refine WC.fzA | exact WC.ptr rfl (Nat.le_of_ble_eq_true rfl) | exact WC.mpr rfl (Nat.le_of_ble_eq_true rfl) | refine WC.slA | refine WC.intA | refine WC.int ?_ | refine WC.boolA | refine WC.bool ?_ | refine WC.strA | refine WC.str ?_ | exact WC.imm rfl))
  · intro k ⟨hk, hs⟩
    conv => whnf
    repeat' ((first | refine Need.auto ?_ | refine Have.mk (fun _h => ?_)); conv => whnf)
    cases k with
    | zero =>
      refine Need.mk (fun h => by simp at h) ?_
      conv => whnf
      refine Need.mk (fun h => by simp at h) ?_
      conv => whnf
      repeat' ((first | refine Need.auto ?_ | refine Have.mk (fun _h => ?_)); conv => whnf)
      refine Br.no rfl ?_
      conv => whnf
      repeat' ((first | refine Need.auto ?_ | refine Have.mk (fun _h => ?_)); conv => whnf)
      have hp : putM l v = l.take (0) ++ v :: l.drop (0) := by unfold putM; rw [hs,scanM]
      rw [hp]
      have e2 : (((0 : Nat) : Int)).toNat = 0 := by simp
      rw [e2]
      refine RM.rg 0 rfl (fun i hi j hj => put_rows hk hi hj) rfl ?_
      have e3 : (l.take (0) ++ v :: l.drop (0)).length = 0 + (0) + 1 + (l.length - (0)) := by simp; omega
      refine RM.fz 0 rfl (Nat.zero_le _) (fun _ _ _ _ => (by first | exact rfl | exact evCell_imm _ _ | exact zoneAt_imm _ _ _ | exact zoneAtT_imm _ _ _)) ?_; refine RM.wkW ?_ ?_ (Nat.zero_le _) <;> (repeat' (first | exact WA.nil | refine WA.cons rfl ?_ ?_ | exact WB.nil | refine WB.cons ?_ ?_ | exact WT.nil | refine WT.cons ?_ ?_ | exact WH.nil | refine WH.cons ?_ ?_ | exact WR.nil | refine WR.cons rfl ?_ ?_ | refine WO.vr ?_ | exact WO.dead | exact WO.mpS | refine WO.mpA ?_ | refine WO.arrA ?_ | exact WS.u | refine WS.c ?_ | refine WS.a ?_ | refine WS.t ?_ | exact WL.nil | refine WL.cons ?_ ?_ | exact WTL.nil | refine WTL.consC ?_ ?_ | refine WTL.consL ?_ ?_ | exact WC.nils | exact WC.nil rfl | exact WC.nilp | refine WC.fzA | exact WC.ptr rfl (Nat.le_of_ble_eq_true rfl) | exact WC.mpr rfl (Nat.le_of_ble_eq_true rfl) | refine WC.slA | refine WC.intA | refine WC.int ?_ | refine WC.boolA | refine WC.bool ?_ | refine WC.strA | refine WC.str ?_ | exact WC.imm rfl))
    | succ k =>
      have e1 : IntKind.i64.wrap (((k + 1 : Nat) : Int) - 1) = k := by rw [wrap_id _ (by omega) (by omega)]; omega
      have e3 : ((k : Int)).toNat = k := by simp
      rw [e1]
      repeat' ((first | refine Need.auto ?_ | refine Have.mk (fun _h => ?_)); conv => whnf)
      rw [e3]
      have hd : (bif decide (((k + 1 : Nat) : Int) > 0) then !strLt (l.getD k ByteArray.empty) v else false) = !strLt (l.getD k ByteArray.empty) v := by
        rw [decide_eq_true (by omega)]; rfl
      cases hlt : strLt (l.getD k ByteArray.empty) v with
      | true =>
        refine Br.no (by rw [decide_eq_true (by omega)]; rfl) ?_
        conv => whnf
        repeat' ((first | refine Need.auto ?_ | refine Have.mk (fun _h => ?_)); conv => whnf)
        have hs2 : scanM l v (k + 1) = some (k + 1) := by rw [scanM, if_pos hlt]
        have hp : putM l v = l.take (k+1) ++ v :: l.drop (k+1) := by unfold putM; rw [hs,hs2]
        rw [hp]
        have e2 : (((k+1 : Nat) : Int)).toNat = k+1 := by simp
        rw [e2]
        refine RM.rg 0 rfl (fun i hi j hj => put_rows hk hi hj) rfl ?_
        have e3 : (l.take (k+1) ++ v :: l.drop (k+1)).length = 0 + (k+1) + 1 + (l.length - (k+1)) := by simp; omega
        refine RM.fz 0 rfl (Nat.zero_le _) (fun _ _ _ _ => (by first | exact rfl | exact evCell_imm _ _ | exact zoneAt_imm _ _ _ | exact zoneAtT_imm _ _ _)) ?_; refine RM.wkW ?_ ?_ (Nat.zero_le _) <;> (repeat' (first | exact WA.nil | refine WA.cons rfl ?_ ?_ | exact WB.nil | refine WB.cons ?_ ?_ | exact WT.nil | refine WT.cons ?_ ?_ | exact WH.nil | refine WH.cons ?_ ?_ | exact WR.nil | refine WR.cons rfl ?_ ?_ | refine WO.vr ?_ | exact WO.dead | exact WO.mpS | refine WO.mpA ?_ | refine WO.arrA ?_ | exact WS.u | refine WS.c ?_ | refine WS.a ?_ | refine WS.t ?_ | exact WL.nil | refine WL.cons ?_ ?_ | exact WTL.nil | refine WTL.consC ?_ ?_ | refine WTL.consL ?_ ?_ | exact WC.nils | exact WC.nil rfl | exact WC.nilp | refine WC.fzA | exact WC.ptr rfl (Nat.le_of_ble_eq_true rfl) | exact WC.mpr rfl (Nat.le_of_ble_eq_true rfl) | refine WC.slA | refine WC.intA | refine WC.int ?_ | refine WC.boolA | refine WC.bool ?_ | refine WC.strA | refine WC.str ?_ | exact WC.imm rfl))
      | false =>
        refine Br.yes (by rw [decide_eq_true (by omega)]; rfl) ?_
        conv => whnf
        repeat' ((first | refine Need.auto ?_ | refine Have.mk (fun _h => ?_)); conv => whnf)
        rw [e1, e3]
        by_cases heq : l.getD k ByteArray.empty = v
        · refine Br.yes (decide_eq_true heq) ?_
          conv => whnf
          repeat' ((first | refine Need.auto ?_ | refine Have.mk (fun _h => ?_)); conv => whnf)
          have hs2 : scanM l v (k + 1) = none := by rw [scanM, if_neg (by rw [hlt]; simp), if_pos heq]
          have hp : putM l v = l := by unfold putM; rw [hs, hs2]
          rw [hp]
          refine RM.immW rfl ?_; (repeat' (first | exact WA.nil | refine WA.cons rfl ?_ ?_ | exact WB.nil | refine WB.cons ?_ ?_ | exact WT.nil | refine WT.cons ?_ ?_ | exact WH.nil | refine WH.cons ?_ ?_ | exact WR.nil | refine WR.cons rfl ?_ ?_ | refine WO.vr ?_ | exact WO.dead | exact WO.mpS | refine WO.mpA ?_ | refine WO.arrA ?_ | exact WS.u | refine WS.c ?_ | refine WS.a ?_ | refine WS.t ?_ | exact WL.nil | refine WL.cons ?_ ?_ | exact WTL.nil | refine WTL.consC ?_ ?_ | refine WTL.consL ?_ ?_ | exact WC.nils | exact WC.nil rfl | exact WC.nilp | refine WC.fzA | exact WC.ptr rfl (Nat.le_of_ble_eq_true rfl) | exact WC.mpr rfl (Nat.le_of_ble_eq_true rfl) | refine WC.slA | refine WC.intA | refine WC.int ?_ | refine WC.boolA | refine WC.bool ?_ | refine WC.strA | refine WC.str ?_ | exact WC.imm rfl))
        · refine Br.no (decide_eq_false heq) ?_
          conv => whnf
          repeat' ((first | refine Need.auto ?_ | refine Have.mk (fun _h => ?_)); conv => whnf)
          refine ⟨k, ⟨by omega, by rw [hs, scanM, if_neg (by rw [hlt]; simp), if_neg heq]⟩, by omega, ?_⟩
          refine Mv.mkW ?_ ?_ (Nat.le_of_ble_eq_true rfl) <;> (repeat' (first | exact WA.nil | refine WA.cons rfl ?_ ?_ | exact WB.nil | refine WB.cons ?_ ?_ | exact WT.nil | refine WT.cons ?_ ?_ | exact WH.nil | refine WH.cons ?_ ?_ | exact WR.nil | refine WR.cons rfl ?_ ?_ | refine WO.vr ?_ | exact WO.dead | exact WO.mpS | refine WO.mpA ?_ | refine WO.arrA ?_ | exact WS.u | refine WS.c ?_ | refine WS.a ?_ | refine WS.t ?_ | exact WL.nil | refine WL.cons ?_ ?_ | exact WTL.nil | refine WTL.consC ?_ ?_ | refine WTL.consL ?_ ?_ | exact WC.nils | exact WC.nil rfl | exact WC.nilp | refine WC.fzA | exact WC.ptr rfl (Nat.le_of_ble_eq_true rfl) | exact WC.mpr rfl (Nat.le_of_ble_eq_true rfl) | refine WC.slA | refine WC.intA | refine WC.int ?_ | refine WC.boolA | refine WC.bool ?_ | refine WC.strA | refine WC.str ?_ | exact WC.imm rfl))
theorem put_body : HasBody Try.prog 74 := ⟨⟨Try.f74, Try.func74, rfl, by kernel_rfl⟩⟩
theorem put19_spec (l : List ByteArray) (v : ByteArray) (hl : l.length ≤ 100000) : PSpec Try.prog 54 [.c (strsC l), .c (.str v)] (.c (strsC (putM l v))) := by
  refine PSpec.rm ?_
  refine CSpec.of_vc hΓ Try.func54 rfl 8 0 [.tmp 4] Try.ntmps54 rfl (by rw [Try.results54]) rfl ?_
  conv => whnf
  repeat' ((first | refine Need.auto ?_ | refine Have.mk (fun _h => ?_)); conv => whnf)
  refine CallN.pureA put_body (put_spec l v hl ) ?_
  conv => whnf
  repeat' ((first | refine Need.auto ?_ | refine Have.mk (fun _h => ?_)); conv => whnf)
  refine RM.immW rfl ?_; (repeat' (first | exact WA.nil | refine WA.cons rfl ?_ ?_ | exact WB.nil | refine WB.cons ?_ ?_ | exact WT.nil | refine WT.cons ?_ ?_ | exact WH.nil | refine WH.cons ?_ ?_ | exact WR.nil | refine WR.cons rfl ?_ ?_ | refine WO.vr ?_ | exact WO.dead | exact WO.mpS | refine WO.mpA ?_ | refine WO.arrA ?_ | exact WS.u | refine WS.c ?_ | refine WS.a ?_ | refine WS.t ?_ | exact WL.nil | refine WL.cons ?_ ?_ | exact WTL.nil | refine WTL.consC ?_ ?_ | refine WTL.consL ?_ ?_ | exact WC.nils | exact WC.nil rfl | exact WC.nilp | refine WC.fzA | exact WC.ptr rfl (Nat.le_of_ble_eq_true rfl) | exact WC.mpr rfl (Nat.le_of_ble_eq_true rfl) | refine WC.slA | refine WC.intA | refine WC.int ?_ | refine WC.boolA | refine WC.bool ?_ | refine WC.strA | refine WC.str ?_ | exact WC.imm rfl))
theorem put19_body : HasBody Try.prog 54 := ⟨⟨Try.f54, Try.func54, rfl, by kernel_rfl⟩⟩
end Go.Proofs
end

section
open Go Go.Am
namespace Go.Proofs
def changesE (e : Evt) (b : Int) : Bool := (decide (e.kind = 2) || decide (e.kind = 3)) && decide (e.block = b)
/-- Does this operation count for the block? -/
def liveE (e : Evt) (b : Int) : Bool := changesE e b && !(e.ret && decide (e.err ≠ 0))
def covR (l ops : List Evt) (b : Int) (n i : Nat) : Nat → Bool
  | 0 => false
  | k + 1 => covR l ops b n i k || (decide (k ≠ i) && changesE (ops.getD k default) b && aheadM l (ops.getD k default).serial n && beforeM l (ops.getD i default).serial (ops.getD k default).serial)
def outR (l ops : List Evt) (b : Int) (n : Nat) : Nat → List ByteArray
  | 0 => []
  | i + 1 => if liveE (ops.getD i default) b = true ∧ covR l ops b n i ops.length = false then putM (outR l ops b n i) (valueM (ops.getD i default)) else outR l ops b n i
def firstR (l ops : List Evt) (b : Int) (n : Nat) : Nat → Bool
  | 0 => true
  | i + 1 => if liveE (ops.getD i default) b = true then firstR l ops b n i && !aheadM l (ops.getD i default).serial n else firstR l ops b n i
def allowedR (bs : List ByteArray) (l : List Evt) (b : Int) : List ByteArray :=
  if sizesM bs l ≠ 0 ∨ b < 0 ∨ (bs.length : Int) ≤ b then [] else
  if firstR l (operationsM l) b (outerP l l.length) (operationsM l).length = true then putM (outR l (operationsM l) b (outerP l l.length) (operationsM l).length) (bs.getD b.toNat ByteArray.empty)
  else outR l (operationsM l) b (outerP l l.length) (operationsM l).length
theorem outR_len (l ops : List Evt) (b : Int) (n : Nat) : ∀ i, (outR l ops b n i).length ≤ i
  | 0 => Nat.le_refl _
  | i + 1 => by
    have := outR_len l ops b n i
    simp only [outR]
    split
    · have := putM_len (outR l ops b n i) (valueM (ops.getD i default)); omega
    · omega
set_option maxHeartbeats 4000000 in
theorem allowed20_spec (bs : List ByteArray) (l : List Evt) (b : Int) : PSpec Try.prog 25 [.c (strsC bs), .c (evC l), .c (.int .i64 b)] (.c (strsC (allowedR bs l b))) := by
  refine PSpec.rm ?_
  refine CSpec.of_vc hΓ Try.func25 rfl 120 0 [.tmp 6] Try.ntmps25 rfl (by rw [Try.results25]) rfl ?_
  conv => whnf
  repeat' ((first | refine Need.auto ?_ | refine Have.mk (fun _h => ?_)); conv => whnf)
  refine CallN.pureA sizes_body (sizes_spec bs l ) ?_
  conv => whnf
  repeat' ((first | refine Need.auto ?_ | refine Have.mk (fun _h => ?_)); conv => whnf)
  by_cases h0 : sizesM bs l ≠ 0 ∨ b < 0 ∨ (bs.length : Int) ≤ b
  · refine Br.yes ?_ ?_
    · by_cases c : sizesM bs l = 0 <;> by_cases c2 : b < 0 <;> simp [c, c2]
      omega
    conv => whnf
    repeat' ((first | refine Need.auto ?_ | refine Have.mk (fun _h => ?_)); conv => whnf)
    have : allowedR bs l b = [] := by unfold allowedR; rw [if_pos h0]
    rw [this]
    refine RM.immW rfl ?_; (repeat' (first | exact WA.nil | refine WA.cons rfl ?_ ?_ | exact WB.nil | refine WB.cons ?_ ?_ | exact WT.nil | refine WT.cons ?_ ?_ | exact WH.nil | refine WH.cons ?_ ?_ | exact WR.nil | refine WR.cons rfl ?_ ?_ | refine WO.vr ?_ | exact WO.dead | exact WO.mpS | refine WO.mpA ?_ | refine WO.arrA ?_ | exact WS.u | refine WS.c ?_ | refine WS.a ?_ | refine WS.t ?_ | exact WL.nil | refine WL.cons ?_ ?_ | exact WTL.nil | refine WTL.consC ?_ ?_ | refine WTL.consL ?_ ?_ | exact WC.nils | exact WC.nil rfl | exact WC.nilp | refine WC.fzA | exact WC.ptr rfl (Nat.le_of_ble_eq_true rfl) | exact WC.mpr rfl (Nat.le_of_ble_eq_true rfl) | refine WC.slA | refine WC.intA | refine WC.int ?_ | refine WC.boolA | refine WC.bool ?_ | refine WC.strA | refine WC.str ?_ | exact WC.imm rfl))
  · refine Br.no ?_ ?_
    · have c : sizesM bs l = 0 := by omega
      have c2 : ¬ b < 0 := by omega
      simp [c, c2]
      omega
    conv => whnf
    repeat' ((first | refine Need.auto ?_ | refine Have.mk (fun _h => ?_)); conv => whnf)
    have hz := sizes_range (bs := bs) (l := l) (by omega)
    refine CallN.pureA point20_body (point20_spec l ) ?_
    conv => whnf
    repeat' ((first | refine Need.auto ?_ | refine Have.mk (fun _h => ?_)); conv => whnf)
    refine CallN.pureA operations18_body (operations18_spec l (by omega) ) ?_
    conv => whnf
    repeat' ((first | refine Need.auto ?_ | refine Have.mk (fun _h => ?_)); conv => whnf)
    have hn := outerP_le l l.length
    have hr : allowedR bs l b = if firstR l (operationsM l) b (outerP l l.length) (operationsM l).length = true then putM (outR l (operationsM l) b (outerP l l.length) (operationsM l).length) (bs.getD b.toNat ByteArray.empty) else outR l (operationsM l) b (outerP l l.length) (operationsM l).length := by
      unfold allowedR; rw [if_neg h0]
    have hol : (operationsM l).length ≤ l.length := by rw [operations_len]; exact begunTo_len l _
    rw [hr]
    generalize operationsM l = ops at *
    generalize outerP l l.length = n at *
    refine Lp.mkK hΓ (ι := Nat) [0, 1, 2, 7, 8] (fun i => [(11, .c (.int .i64 i)), (9, .c (strsC (outR l ops b n i))), (10, .c (.bool (firstR l ops b n i)))]) (fun i => []) (fun i => i ≤ ops.length) (fun i => ops.length - i) 0 (Nat.zero_le _) ?_ ?_
    · refine Mv.mkW ?_ ?_ (Nat.le_of_ble_eq_true rfl) <;> (repeat' (first | exact WA.nil | refine WA.cons rfl ?_ ?_ | exact WB.nil | refine WB.cons ?_ ?_ | exact WT.nil | refine WT.cons ?_ ?_ | exact WH.nil | refine WH.cons ?_ ?_ | exact WR.nil | refine WR.cons rfl ?_ ?_ | refine WO.vr ?_ | exact WO.dead | exact WO.mpS | refine WO.mpA ?_ | refine WO.arrA ?_ | exact WS.u | refine WS.c ?_ | refine WS.a ?_ | refine WS.t ?_ | exact WL.nil | refine WL.cons ?_ ?_ | exact WTL.nil | refine WTL.consC ?_ ?_ | refine WTL.consL ?_ ?_ | exact WC.nils | exact WC.nil rfl | exact WC.nilp | refine WC.fzA | exact WC.ptr rfl (Nat.le_of_ble_eq_true rfl) | exact WC.mpr rfl (Nat.le_of_ble_eq_true rfl) | refine WC.slA | refine WC.intA | refine WC.int ?_ | refine WC.boolA | refine WC.bool ?_ | refine WC.strA | refine WC.str ?_ | exact WC.imm rfl))
    · intro k hk
      conv => whnf
      repeat' ((first | refine Need.auto ?_ | refine Have.mk (fun _h => ?_)); conv => whnf)
      (first | refine Br.lt (fun h1 => ?_) (fun h1 => ?_) | refine Br.le (fun h1 => ?_) (fun h1 => ?_) | refine Br.gt (fun h1 => ?_) (fun h1 => ?_) | refine Br.ge (fun h1 => ?_) (fun h1 => ?_) | refine Br.eq (fun h1 => ?_) (fun h1 => ?_) | refine Br.ne (fun h1 => ?_) (fun h1 => ?_) | refine Br.not (fun h1 => ?_) (fun h1 => ?_) | refine Br.mk (fun h1 => ?_) (fun h1 => ?_)) <;> (try simp only [Int.toNat_natCast] at h1) <;> (conv => whnf)
      · repeat' ((first | refine Need.auto ?_ | refine Have.mk (fun _h => ?_)); conv => whnf)
        have e0 : (k : Int).toNat = k := by simp
        rw [e0]
        refine CallN.pureA changes_body (changes_spec (ops.getD k default).kind (ops.getD k default).block b (ops.getD k default).data ) ?_
        conv => whnf
        repeat' ((first | refine Need.auto ?_ | refine Have.mk (fun _h => ?_)); conv => whnf)
        have hd : (bif !((decide ((ops.getD k default).kind = 2) || decide ((ops.getD k default).kind = 3)) && decide ((ops.getD k default).block = b)) then true else bif (ops.getD k default).ret then (ops.getD k default).err != 0 else false) = !liveE (ops.getD k default) b := by
          unfold liveE changesE
          cases ((decide ((ops.getD k default).kind = 2) || decide ((ops.getD k default).kind = 3)) && decide ((ops.getD k default).block = b)) <;> cases (ops.getD k default).ret <;> simp [-List.getD_eq_getElem?_getD, bne]
          rfl
        cases hv : liveE (ops.getD k default) b with
        | false =>
          refine Br.yes (hd.trans (by rw [hv]; rfl)) ?_
          conv => whnf
          repeat' ((first | refine Need.auto ?_ | refine Have.mk (fun _h => ?_)); conv => whnf)
          have o1 : outR l ops b n (k + 1) = outR l ops b n k := by rw [outR, if_neg (by rw [hv]; simp)]
          have o2 : firstR l ops b n (k + 1) = firstR l ops b n k := by rw [firstR, if_neg (by rw [hv]; simp)]
          refine ⟨k + 1, by omega, by omega, ?_⟩
          rw [o1, o2]
          refine Mv.mkW ?_ ?_ (Nat.le_of_ble_eq_true rfl) <;> (repeat' (first | exact WA.nil | refine WA.cons rfl ?_ ?_ | exact WB.nil | refine WB.cons ?_ ?_ | exact WT.nil | refine WT.cons ?_ ?_ | exact WH.nil | refine WH.cons ?_ ?_ | exact WR.nil | refine WR.cons rfl ?_ ?_ | refine WO.vr ?_ | exact WO.dead | exact WO.mpS | refine WO.mpA ?_ | refine WO.arrA ?_ | exact WS.u | refine WS.c ?_ | refine WS.a ?_ | refine WS.t ?_ | exact WL.nil | refine WL.cons ?_ ?_ | exact WTL.nil | refine WTL.consC ?_ ?_ | refine WTL.consL ?_ ?_ | exact WC.nils | exact WC.nil rfl | exact WC.nilp | refine WC.fzA | exact WC.ptr rfl (Nat.le_of_ble_eq_true rfl) | exact WC.mpr rfl (Nat.le_of_ble_eq_true rfl) | refine WC.slA | refine WC.intA | refine WC.int ?_ | refine WC.boolA | refine WC.bool ?_ | refine WC.strA | refine WC.str ?_ | exact WC.imm rfl))
        | true =>
          refine Br.no (hd.trans (by rw [hv]; rfl)) ?_
          conv => whnf
          repeat' ((first | refine Need.auto ?_ | refine Have.mk (fun _h => ?_)); conv => whnf)
          have o2 : firstR l ops b n (k + 1) = (firstR l ops b n k && !aheadM l (ops.getD k default).serial n) := by rw [firstR, if_pos hv]
          have o1 : outR l ops b n (k + 1) = if covR l ops b n k ops.length = false then putM (outR l ops b n k) (valueM (ops.getD k default)) else outR l ops b n k := by
            rw [outR]; simp only [hv, true_and]
          refine CallG.auto ahead_body (fun _ => ahead_spec l (ops.getD k default).serial n hn (by omega) ) ?_
          conv => whnf
          repeat' ((first | refine Need.auto ?_ | refine Have.mk (fun _h => ?_)); conv => whnf)
          have hfst : (bif firstR l ops b n k then !aheadM l (ops.getD k default).serial n else false) = firstR l ops b n (k + 1) := by rw [o2]; cases firstR l ops b n k <;> rfl
          rw [hfst]
          refine Lp.mkK hΓ (ι := Nat) [0, 1, 2, 7, 8, 9, 10, 11, 12] (fun i => [(14, .c (.int .i64 i)), (13, .c (.bool (covR l ops b n k i)))]) (fun i => [.vr (ops.getD k default).cells]) (fun i => i ≤ ops.length) (fun i => ops.length - i) 0 (Nat.zero_le _) ?_ ?_
          · refine Mv.mkW ?_ ?_ (Nat.le_of_ble_eq_true rfl) <;> (repeat' (first | exact WA.nil | refine WA.cons rfl ?_ ?_ | exact WB.nil | refine WB.cons ?_ ?_ | exact WT.nil | refine WT.cons ?_ ?_ | exact WH.nil | refine WH.cons ?_ ?_ | exact WR.nil | refine WR.cons rfl ?_ ?_ | refine WO.vr ?_ | exact WO.dead | exact WO.mpS | refine WO.mpA ?_ | refine WO.arrA ?_ | exact WS.u | refine WS.c ?_ | refine WS.a ?_ | refine WS.t ?_ | exact WL.nil | refine WL.cons ?_ ?_ | exact WTL.nil | refine WTL.consC ?_ ?_ | refine WTL.consL ?_ ?_ | exact WC.nils | exact WC.nil rfl | exact WC.nilp | refine WC.fzA | exact WC.ptr rfl (Nat.le_of_ble_eq_true rfl) | exact WC.mpr rfl (Nat.le_of_ble_eq_true rfl) | refine WC.slA | refine WC.intA | refine WC.int ?_ | refine WC.boolA | refine WC.bool ?_ | refine WC.strA | refine WC.str ?_ | exact WC.imm rfl))
          · intro i hi
            conv => whnf
            repeat' ((first | refine Need.auto ?_ | refine Have.mk (fun _h => ?_)); conv => whnf)
            (first | refine Br.lt (fun h2 => ?_) (fun h2 => ?_) | refine Br.le (fun h2 => ?_) (fun h2 => ?_) | refine Br.gt (fun h2 => ?_) (fun h2 => ?_) | refine Br.ge (fun h2 => ?_) (fun h2 => ?_) | refine Br.eq (fun h2 => ?_) (fun h2 => ?_) | refine Br.ne (fun h2 => ?_) (fun h2 => ?_) | refine Br.not (fun h2 => ?_) (fun h2 => ?_) | refine Br.mk (fun h2 => ?_) (fun h2 => ?_)) <;> (try simp only [Int.toNat_natCast] at h2) <;> (conv => whnf)
            · repeat' ((first | refine Need.auto ?_ | refine Have.mk (fun _h => ?_)); conv => whnf)
              have e2 : (i : Int).toNat = i := by simp
              rw [e2]
              have hcov : covR l ops b n k (i + 1) = (covR l ops b n k i || (decide (i ≠ k) && changesE (ops.getD i default) b && aheadM l (ops.getD i default).serial n && beforeM l (ops.getD k default).serial (ops.getD i default).serial)) := rfl
              generalize hf : ops.getD i default = f at *
              generalize hc0 : covR l ops b n k i = c0 at *
              clear hd o1 o2 hfst hr
              refine CallG.auto changes_body (fun _ => changes_spec f.kind f.block b f.data ) ?_
              conv => whnf
              repeat' ((first | refine Need.auto ?_ | refine Have.mk (fun _h => ?_)); conv => whnf)
              refine CallG.auto ahead_body (fun _ => ahead_spec l f.serial n hn (by omega) ) ?_
              conv => whnf
              repeat' ((first | refine Need.auto ?_ | refine Have.mk (fun _h => ?_)); conv => whnf)
              refine CallG.auto before18_body (fun _ => before18_spec l (ops.getD k default).serial f.serial ) ?_
              conv => whnf
              repeat' ((first | refine Need.auto ?_ | refine Have.mk (fun _h => ?_)); conv => whnf)
              refine ⟨i + 1, by omega, by omega, ?_⟩
              rw [hcov]
              refine Mv.mkW ?_ ?_ (Nat.le_of_ble_eq_true rfl) <;> (repeat' (first | exact WA.nil | refine WA.cons rfl ?_ ?_ | exact WB.nil | refine WB.cons ?_ ?_ | exact WT.nil | refine WT.cons ?_ ?_ | exact WH.nil | refine WH.cons ?_ ?_ | exact WR.nil | refine WR.cons rfl ?_ ?_ | refine WO.vr ?_ | exact WO.dead | exact WO.mpS | refine WO.mpA ?_ | refine WO.arrA ?_ | exact WS.u | refine WS.c ?_ | refine WS.a ?_ | refine WS.t ?_ | exact WL.nil | refine WL.cons ?_ ?_ | exact WTL.nil | refine WTL.consC ?_ ?_ | refine WTL.consL ?_ ?_ | exact WC.nils | exact WC.nil rfl | exact WC.nilp | refine WC.fzA | exact WC.ptr rfl (Nat.le_of_ble_eq_true rfl) | exact WC.mpr rfl (Nat.le_of_ble_eq_true rfl) | refine WC.slA | refine WC.intA | refine WC.int ?_ | refine WC.boolA | refine WC.bool ?_ | refine WC.strA | refine WC.str ?_ | exact WC.imm rfl))
              have hne : ((i : Int) != (k : Int)) = decide (i ≠ k) := by
                by_cases c : i = k
                · subst c; simp
                · have : (i : Int) ≠ (k : Int) := by omega
                  rw [decide_eq_true c]
                  simpa using this
              rw [hne]
              show _ = (c0 || decide (i ≠ k) && ((decide (f.kind = 2) || decide (f.kind = 3)) && decide (f.block = b)) && aheadM l f.serial n && beforeM l (ops.getD k default).serial f.serial)
              cases c0 <;> cases decide (i ≠ k) <;> cases ((decide (f.kind = 2) || decide (f.kind = 3)) && decide (f.block = b)) <;> cases aheadM l f.serial n <;> rfl
            · repeat' ((first | refine Need.auto ?_ | refine Have.mk (fun _h => ?_)); conv => whnf)
              have : i = ops.length := by omega
              subst this
              cases hcv : covR l ops b n k ops.length with
              | true =>
                refine Br.no rfl ?_
                conv => whnf
                repeat' ((first | refine Need.auto ?_ | refine Have.mk (fun _h => ?_)); conv => whnf)
                rw [hcv, if_neg (by simp)] at o1
                refine ⟨k + 1, by omega, by omega, ?_⟩
                rw [o1]
                refine Mv.mkW ?_ ?_ (Nat.le_of_ble_eq_true rfl) <;> (repeat' (first | exact WA.nil | refine WA.cons rfl ?_ ?_ | exact WB.nil | refine WB.cons ?_ ?_ | exact WT.nil | refine WT.cons ?_ ?_ | exact WH.nil | refine WH.cons ?_ ?_ | exact WR.nil | refine WR.cons rfl ?_ ?_ | refine WO.vr ?_ | exact WO.dead | exact WO.mpS | refine WO.mpA ?_ | refine WO.arrA ?_ | exact WS.u | refine WS.c ?_ | refine WS.a ?_ | refine WS.t ?_ | exact WL.nil | refine WL.cons ?_ ?_ | exact WTL.nil | refine WTL.consC ?_ ?_ | refine WTL.consL ?_ ?_ | exact WC.nils | exact WC.nil rfl | exact WC.nilp | refine WC.fzA | exact WC.ptr rfl (Nat.le_of_ble_eq_true rfl) | exact WC.mpr rfl (Nat.le_of_ble_eq_true rfl) | refine WC.slA | refine WC.intA | refine WC.int ?_ | refine WC.boolA | refine WC.bool ?_ | refine WC.strA | refine WC.str ?_ | exact WC.imm rfl))
              | false =>
                refine Br.yes rfl ?_
                conv => whnf
                repeat' ((first | refine Need.auto ?_ | refine Have.mk (fun _h => ?_)); conv => whnf)
                refine CallN.pureA value20_body (value20_spec (ops.getD k default) ) ?_
                conv => whnf
                repeat' ((first | refine Need.auto ?_ | refine Have.mk (fun _h => ?_)); conv => whnf)
                have := outR_len l ops b n k
                refine CallN.pureA put19_body (put19_spec (outR l ops b n k) (valueM (ops.getD k default)) (by omega) ) ?_
                conv => whnf
                repeat' ((first | refine Need.auto ?_ | refine Have.mk (fun _h => ?_)); conv => whnf)
                rw [hcv, if_pos rfl] at o1
                refine ⟨k + 1, by omega, by omega, ?_⟩
                rw [o1]
                refine Mv.mkW ?_ ?_ (Nat.le_of_ble_eq_true rfl) <;> (repeat' (first | exact WA.nil | refine WA.cons rfl ?_ ?_ | exact WB.nil | refine WB.cons ?_ ?_ | exact WT.nil | refine WT.cons ?_ ?_ | exact WH.nil | refine WH.cons ?_ ?_ | exact WR.nil | refine WR.cons rfl ?_ ?_ | refine WO.vr ?_ | exact WO.dead | exact WO.mpS | refine WO.mpA ?_ | refine WO.arrA ?_ | exact WS.u | refine WS.c ?_ | refine WS.a ?_ | refine WS.t ?_ | exact WL.nil | refine WL.cons ?_ ?_ | exact WTL.nil | refine WTL.consC ?_ ?_ | refine WTL.consL ?_ ?_ | exact WC.nils | exact WC.nil rfl | exact WC.nilp | refine WC.fzA | exact WC.ptr rfl (Nat.le_of_ble_eq_true rfl) | exact WC.mpr rfl (Nat.le_of_ble_eq_true rfl) | refine WC.slA | refine WC.intA | refine WC.int ?_ | refine WC.boolA | refine WC.bool ?_ | refine WC.strA | refine WC.str ?_ | exact WC.imm rfl))
      · repeat' ((first | refine Need.auto ?_ | refine Have.mk (fun _h => ?_)); conv => whnf)
        have : k = ops.length := by omega
        subst this
        cases hf : firstR l ops b n ops.length with
        | true =>
          refine Br.yes rfl ?_
          conv => whnf
          repeat' ((first | refine Need.auto ?_ | refine Have.mk (fun _h => ?_)); conv => whnf)
          have := outR_len l ops b n ops.length
          refine CallN.pureA put19_body (put19_spec (outR l ops b n ops.length) (bs.getD b.toNat ByteArray.empty) (by omega) ) ?_
          conv => whnf
          repeat' ((first | refine Need.auto ?_ | refine Have.mk (fun _h => ?_)); conv => whnf)
          refine RM.immW rfl ?_; (repeat' (first | exact WA.nil | refine WA.cons rfl ?_ ?_ | exact WB.nil | refine WB.cons ?_ ?_ | exact WT.nil | refine WT.cons ?_ ?_ | exact WH.nil | refine WH.cons ?_ ?_ | exact WR.nil | refine WR.cons rfl ?_ ?_ | refine WO.vr ?_ | exact WO.dead | exact WO.mpS | refine WO.mpA ?_ | refine WO.arrA ?_ | exact WS.u | refine WS.c ?_ | refine WS.a ?_ | refine WS.t ?_ | exact WL.nil | refine WL.cons ?_ ?_ | exact WTL.nil | refine WTL.consC ?_ ?_ | refine WTL.consL ?_ ?_ | exact WC.nils | exact WC.nil rfl | exact WC.nilp | refine WC.fzA | exact WC.ptr rfl (Nat.le_of_ble_eq_true rfl) | exact WC.mpr rfl (Nat.le_of_ble_eq_true rfl) | refine WC.slA | refine WC.intA | refine WC.int ?_ | refine WC.boolA | refine WC.bool ?_ | refine WC.strA | refine WC.str ?_ | exact WC.imm rfl))
        | false =>
          refine Br.no rfl ?_
          conv => whnf
          repeat' ((first | refine Need.auto ?_ | refine Have.mk (fun _h => ?_)); conv => whnf)
          refine RM.immW rfl ?_; (repeat' (first | exact WA.nil | refine WA.cons rfl ?_ ?_ | exact WB.nil | refine WB.cons ?_ ?_ | exact WT.nil | refine WT.cons ?_ ?_ | exact WH.nil | refine WH.cons ?_ ?_ | exact WR.nil | refine WR.cons rfl ?_ ?_ | refine WO.vr ?_ | exact WO.dead | exact WO.mpS | refine WO.mpA ?_ | refine WO.arrA ?_ | exact WS.u | refine WS.c ?_ | refine WS.a ?_ | refine WS.t ?_ | exact WL.nil | refine WL.cons ?_ ?_ | exact WTL.nil | refine WTL.consC ?_ ?_ | refine WTL.consL ?_ ?_ | exact WC.nils | exact WC.nil rfl | exact WC.nilp | refine WC.fzA | exact WC.ptr rfl (Nat.le_of_ble_eq_true rfl) | exact WC.mpr rfl (Nat.le_of_ble_eq_true rfl) | refine WC.slA | refine WC.intA | refine WC.int ?_ | refine WC.boolA | refine WC.bool ?_ | refine WC.strA | refine WC.str ?_ | exact WC.imm rfl))
theorem allowed20_body : HasBody Try.prog 25 := ⟨⟨Try.f25, Try.func25, rfl, by kernel_rfl⟩⟩
end Go.Proofs
end

section
open Go Go.Am
namespace Go.Proofs
def memB (l : List ByteArray) (v : ByteArray) : Bool := l.any fun x => decide (x = v)
theorem memB_iff {l : List ByteArray} {v : ByteArray} : memB l v = true ↔ v ∈ l := by
  unfold memB
  rw [List.any_eq_true]
  constructor
  · rintro ⟨x, h1, h2⟩
    rw [← of_decide_eq_true h2]; exact h1
  · intro h; exact ⟨_, h, by simp⟩
def foundTo (al : Int → List ByteArray) (found : List ByteArray) : Nat → Bool
  | 0 => true
  | k + 1 => foundTo al found k && memB (al k) (found.getD k ByteArray.empty)
theorem foundTo_false {al : Int → List ByteArray} {found : List ByteArray} {k : Nat} (h : memB (al k) (found.getD k ByteArray.empty) = false) : ∀ n, k < n → foundTo al found n = false
  | 0, h => by omega
  | n + 1, hn => by
    rw [foundTo]
    by_cases c : k = n
    · subst c; rw [h, Bool.and_false]
    · rw [foundTo_false h n (by omega), Bool.false_and]
def checkA (al : Int → List ByteArray) (bs : List ByteArray) (l : List Evt) (found : List ByteArray) : Int :=
  if sizesM bs l ≠ 0 then sizesM bs l else if found.length ≠ bs.length then 2 else if foundTo al found bs.length = true then 0 else 14
theorem check20_spec (bs : List ByteArray) (l : List Evt) (found : List ByteArray) : PSpec Try.prog 50 [.c (strsC bs), .c (evC l), .c (strsC found)] (.c (.int .i64 (checkA (allowedR bs l) bs l found))) := by
  refine PSpec.rm ?_
  refine CSpec.of_vc hΓ Try.func50 rfl 53 0 [.tmp 6] Try.ntmps50 rfl (by rw [Try.results50]) rfl ?_
  conv => whnf
  repeat' ((first | refine Need.auto ?_ | refine Have.mk (fun _h => ?_)); conv => whnf)
  refine CallN.pureA sizes_body (sizes_spec bs l ) ?_
  conv => whnf
  repeat' ((first | refine Need.auto ?_ | refine Have.mk (fun _h => ?_)); conv => whnf)
  (first | refine Br.lt (fun h0 => ?_) (fun h0 => ?_) | refine Br.le (fun h0 => ?_) (fun h0 => ?_) | refine Br.gt (fun h0 => ?_) (fun h0 => ?_) | refine Br.ge (fun h0 => ?_) (fun h0 => ?_) | refine Br.eq (fun h0 => ?_) (fun h0 => ?_) | refine Br.ne (fun h0 => ?_) (fun h0 => ?_) | refine Br.not (fun h0 => ?_) (fun h0 => ?_) | refine Br.mk (fun h0 => ?_) (fun h0 => ?_)) <;> (try simp only [Int.toNat_natCast] at h0) <;> (conv => whnf)
  · repeat' ((first | refine Need.auto ?_ | refine Have.mk (fun _h => ?_)); conv => whnf)
    have : checkA (allowedR bs l) bs l found = sizesM bs l := by unfold checkA; rw [if_pos h0]
    rw [this]
    refine RM.immW rfl ?_; (repeat' (first | exact WA.nil | refine WA.cons rfl ?_ ?_ | exact WB.nil | refine WB.cons ?_ ?_ | exact WT.nil | refine WT.cons ?_ ?_ | exact WH.nil | refine WH.cons ?_ ?_ | exact WR.nil | refine WR.cons rfl ?_ ?_ | refine WO.vr ?_ | exact WO.dead | exact WO.mpS | refine WO.mpA ?_ | refine WO.arrA ?_ | exact WS.u | refine WS.c ?_ | refine WS.a ?_ | refine WS.t ?_ | exact WL.nil | refine WL.cons ?_ ?_ | exact WTL.nil | refine WTL.consC ?_ ?_ | refine WTL.consL ?_ ?_ | exact WC.nils | exact WC.nil rfl | exact WC.nilp | refine WC.fzA | exact WC.ptr rfl (Nat.le_of_ble_eq_true rfl) | exact WC.mpr rfl (Nat.le_of_ble_eq_true rfl) | refine WC.slA | refine WC.intA | refine WC.int ?_ | refine WC.boolA | refine WC.bool ?_ | refine WC.strA | refine WC.str ?_ | exact WC.imm rfl))
  · repeat' ((first | refine Need.auto ?_ | refine Have.mk (fun _h => ?_)); conv => whnf)
    (first | refine Br.lt (fun h1 => ?_) (fun h1 => ?_) | refine Br.le (fun h1 => ?_) (fun h1 => ?_) | refine Br.gt (fun h1 => ?_) (fun h1 => ?_) | refine Br.ge (fun h1 => ?_) (fun h1 => ?_) | refine Br.eq (fun h1 => ?_) (fun h1 => ?_) | refine Br.ne (fun h1 => ?_) (fun h1 => ?_) | refine Br.not (fun h1 => ?_) (fun h1 => ?_) | refine Br.mk (fun h1 => ?_) (fun h1 => ?_)) <;> (try simp only [Int.toNat_natCast] at h1) <;> (conv => whnf)
    · repeat' ((first | refine Need.auto ?_ | refine Have.mk (fun _h => ?_)); conv => whnf)
      have : checkA (allowedR bs l) bs l found = 2 := by unfold checkA; rw [if_neg (by omega), if_pos (by omega)]
      rw [this]
      refine RM.immW rfl ?_; (repeat' (first | exact WA.nil | refine WA.cons rfl ?_ ?_ | exact WB.nil | refine WB.cons ?_ ?_ | exact WT.nil | refine WT.cons ?_ ?_ | exact WH.nil | refine WH.cons ?_ ?_ | exact WR.nil | refine WR.cons rfl ?_ ?_ | refine WO.vr ?_ | exact WO.dead | exact WO.mpS | refine WO.mpA ?_ | refine WO.arrA ?_ | exact WS.u | refine WS.c ?_ | refine WS.a ?_ | refine WS.t ?_ | exact WL.nil | refine WL.cons ?_ ?_ | exact WTL.nil | refine WTL.consC ?_ ?_ | refine WTL.consL ?_ ?_ | exact WC.nils | exact WC.nil rfl | exact WC.nilp | refine WC.fzA | exact WC.ptr rfl (Nat.le_of_ble_eq_true rfl) | exact WC.mpr rfl (Nat.le_of_ble_eq_true rfl) | refine WC.slA | refine WC.intA | refine WC.int ?_ | refine WC.boolA | refine WC.bool ?_ | refine WC.strA | refine WC.str ?_ | exact WC.imm rfl))
    · repeat' ((first | refine Need.auto ?_ | refine Have.mk (fun _h => ?_)); conv => whnf)
      have hca : checkA (allowedR bs l) bs l found = if foundTo (allowedR bs l) found bs.length = true then 0 else 14 := by unfold checkA; rw [if_neg (by omega), if_neg (by omega)]
      have hz := sizes_range (bs := bs) (l := l) (by omega)
      refine Lp.mkK hΓ (ι := Nat) [0, 1, 2] (fun i => [(8, .c (.int .i64 i))]) (fun i => []) (fun i => i ≤ bs.length ∧ foundTo (allowedR bs l) found i = true) (fun i => bs.length - i) 0 ⟨Nat.zero_le _, rfl⟩ ?_ ?_
      · refine Mv.mkW ?_ ?_ (Nat.le_of_ble_eq_true rfl) <;> (repeat' (first | exact WA.nil | refine WA.cons rfl ?_ ?_ | exact WB.nil | refine WB.cons ?_ ?_ | exact WT.nil | refine WT.cons ?_ ?_ | exact WH.nil | refine WH.cons ?_ ?_ | exact WR.nil | refine WR.cons rfl ?_ ?_ | refine WO.vr ?_ | exact WO.dead | exact WO.mpS | refine WO.mpA ?_ | refine WO.arrA ?_ | exact WS.u | refine WS.c ?_ | refine WS.a ?_ | refine WS.t ?_ | exact WL.nil | refine WL.cons ?_ ?_ | exact WTL.nil | refine WTL.consC ?_ ?_ | refine WTL.consL ?_ ?_ | exact WC.nils | exact WC.nil rfl | exact WC.nilp | refine WC.fzA | exact WC.ptr rfl (Nat.le_of_ble_eq_true rfl) | exact WC.mpr rfl (Nat.le_of_ble_eq_true rfl) | refine WC.slA | refine WC.intA | refine WC.int ?_ | refine WC.boolA | refine WC.bool ?_ | refine WC.strA | refine WC.str ?_ | exact WC.imm rfl))
      · intro k ⟨hk, hf⟩
        conv => whnf
        repeat' ((first | refine Need.auto ?_ | refine Have.mk (fun _h => ?_)); conv => whnf)
        (first | refine Br.lt (fun h2 => ?_) (fun h2 => ?_) | refine Br.le (fun h2 => ?_) (fun h2 => ?_) | refine Br.gt (fun h2 => ?_) (fun h2 => ?_) | refine Br.ge (fun h2 => ?_) (fun h2 => ?_) | refine Br.eq (fun h2 => ?_) (fun h2 => ?_) | refine Br.ne (fun h2 => ?_) (fun h2 => ?_) | refine Br.not (fun h2 => ?_) (fun h2 => ?_) | refine Br.mk (fun h2 => ?_) (fun h2 => ?_)) <;> (try simp only [Int.toNat_natCast] at h2) <;> (conv => whnf)
        · repeat' ((first | refine Need.auto ?_ | refine Have.mk (fun _h => ?_)); conv => whnf)
          have e0 : (k : Int).toNat = k := by simp
          refine CallN.pureA allowed20_body (allowed20_spec bs l k ) ?_
          conv => whnf
          repeat' ((first | refine Need.auto ?_ | refine Have.mk (fun _h => ?_)); conv => whnf)
          generalize ha : allowedR bs l k = a at *
          have hap : a = allowedR bs l k := ha.symm
          refine Lp.mkK hΓ (ι := Nat) [0, 1, 2, 8, 10] (fun i => [(11, .c (.int .i64 i)), (9, .c (.bool ((a.take i).any fun x => decide (x = found.getD k ByteArray.empty))))]) (fun i => []) (fun i => i ≤ a.length) (fun i => a.length - i) 0 (Nat.zero_le _) ?_ ?_
          · refine Mv.mkW ?_ ?_ (Nat.le_of_ble_eq_true rfl) <;> (repeat' (first | exact WA.nil | refine WA.cons rfl ?_ ?_ | exact WB.nil | refine WB.cons ?_ ?_ | exact WT.nil | refine WT.cons ?_ ?_ | exact WH.nil | refine WH.cons ?_ ?_ | exact WR.nil | refine WR.cons rfl ?_ ?_ | refine WO.vr ?_ | exact WO.dead | exact WO.mpS | refine WO.mpA ?_ | refine WO.arrA ?_ | exact WS.u | refine WS.c ?_ | refine WS.a ?_ | refine WS.t ?_ | exact WL.nil | refine WL.cons ?_ ?_ | exact WTL.nil | refine WTL.consC ?_ ?_ | refine WTL.consL ?_ ?_ | exact WC.nils | exact WC.nil rfl | exact WC.nilp | refine WC.fzA | exact WC.ptr rfl (Nat.le_of_ble_eq_true rfl) | exact WC.mpr rfl (Nat.le_of_ble_eq_true rfl) | refine WC.slA | refine WC.intA | refine WC.int ?_ | refine WC.boolA | refine WC.bool ?_ | refine WC.strA | refine WC.str ?_ | exact WC.imm rfl))
          · intro i hi
            conv => whnf
            repeat' ((first | refine Need.auto ?_ | refine Have.mk (fun _h => ?_)); conv => whnf)
            (first | refine Br.lt (fun h3 => ?_) (fun h3 => ?_) | refine Br.le (fun h3 => ?_) (fun h3 => ?_) | refine Br.gt (fun h3 => ?_) (fun h3 => ?_) | refine Br.ge (fun h3 => ?_) (fun h3 => ?_) | refine Br.eq (fun h3 => ?_) (fun h3 => ?_) | refine Br.ne (fun h3 => ?_) (fun h3 => ?_) | refine Br.not (fun h3 => ?_) (fun h3 => ?_) | refine Br.mk (fun h3 => ?_) (fun h3 => ?_)) <;> (try simp only [Int.toNat_natCast] at h3) <;> (conv => whnf)
            · repeat' ((first | refine Need.auto ?_ | refine Have.mk (fun _h => ?_)); conv => whnf)
              refine Dr.mk hΓ hMix (by kernel_rfl) ?_; conv => whnf
              repeat' ((first | refine Need.auto ?_ | refine Have.mk (fun _h => ?_)); conv => whnf)
              have e1 : (i : Int).toNat = i := by simp
              refine ⟨i + 1, by omega, by omega, ?_⟩
              refine Mv.mkW ?_ ?_ (Nat.le_of_ble_eq_true rfl) <;> (repeat' (first | exact WA.nil | refine WA.cons rfl ?_ ?_ | exact WB.nil | refine WB.cons ?_ ?_ | exact WT.nil | refine WT.cons ?_ ?_ | exact WH.nil | refine WH.cons ?_ ?_ | exact WR.nil | refine WR.cons rfl ?_ ?_ | refine WO.vr ?_ | exact WO.dead | exact WO.mpS | refine WO.mpA ?_ | refine WO.arrA ?_ | exact WS.u | refine WS.c ?_ | refine WS.a ?_ | refine WS.t ?_ | exact WL.nil | refine WL.cons ?_ ?_ | exact WTL.nil | refine WTL.consC ?_ ?_ | refine WTL.consL ?_ ?_ | exact WC.nils | exact WC.nil rfl | exact WC.nilp | refine WC.fzA | exact WC.ptr rfl (Nat.le_of_ble_eq_true rfl) | exact WC.mpr rfl (Nat.le_of_ble_eq_true rfl) | refine WC.slA | refine WC.intA | refine WC.int ?_ | refine WC.boolA | refine WC.bool ?_ | refine WC.strA | refine WC.str ?_ | exact WC.imm rfl))
              have e2 : a.getD i ByteArray.empty = a[i]'(by omega) := by simp [List.getD, (by omega : i < a.length)]
              rw [List.take_succ_eq_append_getElem (by omega), List.any_append, e0, e1, e2]
              cases ((a.take i).any fun x => decide (x = found.getD k ByteArray.empty)) <;> simp
            · repeat' ((first | refine Need.auto ?_ | refine Have.mk (fun _h => ?_)); conv => whnf)
              have : i = a.length := by omega
              subst this
              rw [List.take_length]
              cases c : memB a (found.getD k ByteArray.empty) with
              | true =>
                refine Br.no (congrArg not c) ?_
                conv => whnf
                repeat' ((first | refine Need.auto ?_ | refine Have.mk (fun _h => ?_)); conv => whnf)
                refine ⟨k + 1, ⟨by omega, by rw [foundTo, hf, ha, c]; rfl⟩, by omega, ?_⟩
                refine Mv.mkW ?_ ?_ (Nat.le_of_ble_eq_true rfl) <;> (repeat' (first | exact WA.nil | refine WA.cons rfl ?_ ?_ | exact WB.nil | refine WB.cons ?_ ?_ | exact WT.nil | refine WT.cons ?_ ?_ | exact WH.nil | refine WH.cons ?_ ?_ | exact WR.nil | refine WR.cons rfl ?_ ?_ | refine WO.vr ?_ | exact WO.dead | exact WO.mpS | refine WO.mpA ?_ | refine WO.arrA ?_ | exact WS.u | refine WS.c ?_ | refine WS.a ?_ | refine WS.t ?_ | exact WL.nil | refine WL.cons ?_ ?_ | exact WTL.nil | refine WTL.consC ?_ ?_ | refine WTL.consL ?_ ?_ | exact WC.nils | exact WC.nil rfl | exact WC.nilp | refine WC.fzA | exact WC.ptr rfl (Nat.le_of_ble_eq_true rfl) | exact WC.mpr rfl (Nat.le_of_ble_eq_true rfl) | refine WC.slA | refine WC.intA | refine WC.int ?_ | refine WC.boolA | refine WC.bool ?_ | refine WC.strA | refine WC.str ?_ | exact WC.imm rfl))
              | false =>
                refine Br.yes (congrArg not c) ?_
                conv => whnf
                repeat' ((first | refine Need.auto ?_ | refine Have.mk (fun _h => ?_)); conv => whnf)
                rw [hca, foundTo_false (by rw [ha]; exact c) _ (by omega : k < bs.length)]
                refine RM.immW rfl ?_; (repeat' (first | exact WA.nil | refine WA.cons rfl ?_ ?_ | exact WB.nil | refine WB.cons ?_ ?_ | exact WT.nil | refine WT.cons ?_ ?_ | exact WH.nil | refine WH.cons ?_ ?_ | exact WR.nil | refine WR.cons rfl ?_ ?_ | refine WO.vr ?_ | exact WO.dead | exact WO.mpS | refine WO.mpA ?_ | refine WO.arrA ?_ | exact WS.u | refine WS.c ?_ | refine WS.a ?_ | refine WS.t ?_ | exact WL.nil | refine WL.cons ?_ ?_ | exact WTL.nil | refine WTL.consC ?_ ?_ | refine WTL.consL ?_ ?_ | exact WC.nils | exact WC.nil rfl | exact WC.nilp | refine WC.fzA | exact WC.ptr rfl (Nat.le_of_ble_eq_true rfl) | exact WC.mpr rfl (Nat.le_of_ble_eq_true rfl) | refine WC.slA | refine WC.intA | refine WC.int ?_ | refine WC.boolA | refine WC.bool ?_ | refine WC.strA | refine WC.str ?_ | exact WC.imm rfl))
        · repeat' ((first | refine Need.auto ?_ | refine Have.mk (fun _h => ?_)); conv => whnf)
          have : k = bs.length := by omega
          subst this
          rw [hca, hf]
          refine RM.immW rfl ?_; (repeat' (first | exact WA.nil | refine WA.cons rfl ?_ ?_ | exact WB.nil | refine WB.cons ?_ ?_ | exact WT.nil | refine WT.cons ?_ ?_ | exact WH.nil | refine WH.cons ?_ ?_ | exact WR.nil | refine WR.cons rfl ?_ ?_ | refine WO.vr ?_ | exact WO.dead | exact WO.mpS | refine WO.mpA ?_ | refine WO.arrA ?_ | exact WS.u | refine WS.c ?_ | refine WS.a ?_ | refine WS.t ?_ | exact WL.nil | refine WL.cons ?_ ?_ | exact WTL.nil | refine WTL.consC ?_ ?_ | refine WTL.consL ?_ ?_ | exact WC.nils | exact WC.nil rfl | exact WC.nilp | refine WC.fzA | exact WC.ptr rfl (Nat.le_of_ble_eq_true rfl) | exact WC.mpr rfl (Nat.le_of_ble_eq_true rfl) | refine WC.slA | refine WC.intA | refine WC.int ?_ | refine WC.boolA | refine WC.bool ?_ | refine WC.strA | refine WC.str ?_ | exact WC.imm rfl))
theorem check20_body : HasBody Try.prog 50 := ⟨⟨Try.f50, Try.func50, rfl, by kernel_rfl⟩⟩
end Go.Proofs
end
