/- Part of the proofs of laws of this seat: contracts and plain lemmas; no condition is added to a statement. -/
import Derived.Test.YtbahpfnjjkoboaaDurAX
import Derived.Test.YtbahpfnjjkoboaaAmEX
import Derived.Test.YtbahpfnjjkoboaaLay1X
set_option linter.unusedSimpArgs false
set_option linter.unusedVariables false
section
open Go Go.Am
namespace Go.Am
theorem Bw.fn {H : List O} {f : Fn} {m : Nat} {g g' : Nat → C} (h : ∀ j, j < m → Bw H (g j) (g' j)) : Bw H (.fn f m g) (.fn f m g') := by
  intro K F μ w v hw hv
  obtain ⟨cs, h1, h2, h3⟩ := hv
  refine ⟨cs, h1, h2, fun j hj => ?_⟩
  obtain ⟨x, x1, x2⟩ := h3 j hj
  exact ⟨x, x1, h j hj K F μ w x hw x2⟩
theorem WC.fnI {ρ : Nat → Nat} {n : Nat} {f : Fn} {m : Nat} {g : Nat → C} (h : ∀ j, j < m → (g j).imm = true) : WC ρ n (.fn f m g) (.fn f m g) := ⟨⟨rfl, rfl, fun j hj => wkC.imm (h j hj)⟩⟩
theorem BwL.same {H : List O} : ∀ {x : List C}, x.all C.imm = true → BwL H x x
  | [], _ => trivial
  | c :: r, h => by
    simp only [List.all_cons, Bool.and_eq_true] at h
    exact ⟨Bw.same h.1, BwL.same h.2⟩
end Go.Am
namespace Go.Proofs
theorem changes57_spec (e : Evt) (b : Int) : PSpec Try.prog 57 [.a e.cells, .c (.ip 1 fun _ => .int .i64 b)] (.c (.bool (changesE e b))) := by
  refine PSpec.rm ?_
  refine CSpec.of_vc hΓ Try.func57 rfl 21 0 [.tmp 3] Try.ntmps57 rfl (by rw [Try.results57]) rfl ?_
  conv => whnf
  repeat' ((first | refine Need.auto ?_ | refine Have.mk (fun _h => ?_)); conv => whnf)
  refine RM.immW rfl ?_; (repeat' (first | exact WA.nil | refine WA.cons rfl ?_ ?_ | exact WB.nil | refine WB.cons ?_ ?_ | exact WT.nil | refine WT.cons ?_ ?_ | exact WH.nil | refine WH.cons ?_ ?_ | exact WR.nil | refine WR.cons rfl ?_ ?_ | refine WO.vr ?_ | exact WO.dead | exact WO.mpS | refine WO.mpA ?_ | refine WO.arrA ?_ | exact WS.u | refine WS.c ?_ | refine WS.a ?_ | refine WS.t ?_ | exact WL.nil | refine WL.cons ?_ ?_ | exact WTL.nil | refine WTL.consC ?_ ?_ | refine WTL.consL ?_ ?_ | exact WC.nils | exact WC.nil rfl | exact WC.nilp | refine WC.fzA | exact WC.ptr rfl (Nat.le_of_ble_eq_true rfl) | exact WC.mpr rfl (Nat.le_of_ble_eq_true rfl) | refine WC.slA | refine WC.intA | refine WC.int ?_ | refine WC.boolA | refine WC.bool ?_ | refine WC.strA | refine WC.str ?_ | exact WC.imm rfl))
  unfold changesE
  by_cases c1 : e.kind = 2 <;> by_cases c2 : e.kind = 3 <;> simp [c1, c2]
  all_goals rfl
theorem changes57_body : HasBody Try.prog 57 := ⟨⟨Try.f57, Try.func57, rfl, by kernel_rfl⟩⟩
theorem cov60_spec (l : List Evt) (e : Evt) (s : Int) : PSpec Try.prog 60 [.c (.int .i64 s), .c (.ip 1 fun _ => evC l), .c (.ip 8 e.cell)] (.c (.bool (beforeM l e.serial s))) := by
  refine PSpec.rm ?_
  refine CSpec.of_vc hΓ Try.func60 rfl 10 0 [.tmp 4] Try.ntmps60 rfl (by rw [Try.results60]) rfl ?_
  conv => whnf
  repeat' ((first | refine Need.auto ?_ | refine Have.mk (fun _h => ?_)); conv => whnf)
  refine CallN.pureA before_body (before_spec l e.serial s ) ?_
  conv => whnf
  repeat' ((first | refine Need.auto ?_ | refine Have.mk (fun _h => ?_)); conv => whnf)
  refine RM.immW rfl ?_; (repeat' (first | exact WA.nil | refine WA.cons rfl ?_ ?_ | exact WB.nil | refine WB.cons ?_ ?_ | exact WT.nil | refine WT.cons ?_ ?_ | exact WH.nil | refine WH.cons ?_ ?_ | exact WR.nil | refine WR.cons rfl ?_ ?_ | refine WO.vr ?_ | exact WO.dead | exact WO.mpS | refine WO.mpA ?_ | refine WO.arrA ?_ | exact WS.u | refine WS.c ?_ | refine WS.a ?_ | refine WS.t ?_ | exact WL.nil | refine WL.cons ?_ ?_ | exact WTL.nil | refine WTL.consC ?_ ?_ | refine WTL.consL ?_ ?_ | exact WC.nils | exact WC.nil rfl | exact WC.nilp | refine WC.fzA | exact WC.ptr rfl (Nat.le_of_ble_eq_true rfl) | exact WC.mpr rfl (Nat.le_of_ble_eq_true rfl) | refine WC.slA | refine WC.intA | refine WC.int ?_ | refine WC.boolA | refine WC.bool ?_ | refine WC.strA | refine WC.str ?_ | exact WC.imm rfl))
theorem cov60_body : HasBody Try.prog 60 := ⟨⟨Try.f60, Try.func60, rfl, by kernel_rfl⟩⟩
def capL (l : List Evt) (e : Evt) : Nat → C
  | 0 => .ip 1 fun _ => evC l
  | _ => .ip 8 e.cell
theorem capL_imm (l : List Evt) (e : Evt) (j : Nat) : (capL l e j).imm = true := by
  unfold capL
  split <;> rfl
theorem indexFunc_spec (l : List Evt) (e : Evt) (ss : List Int) : PSpec Try.prog 75 [.c (intsC ss), .c (.fn (.func 60) 2 (capL l e))] (.c (.int .i64 (if ss.any (fun s => beforeM l e.serial s) = true then (ss.findIdx fun s => beforeM l e.serial s : Nat) else -1))) := by
  refine PSpec.rm ?_
  refine CSpec.of_vc hΓ Try.func75 rfl 19 0 [.tmp 4] Try.ntmps75 rfl (by rw [Try.results75]) rfl ?_
  conv => whnf
  repeat' ((first | refine Need.auto ?_ | refine Have.mk (fun _h => ?_)); conv => whnf)
  refine Lp.mkK hΓ (ι := Nat) [0, 1, 7] (fun i => [(8, .c (.int .i64 i))]) (fun i => []) (fun i => i ≤ ss.length ∧ ∀ j, j < i → beforeM l e.serial (ss.getD j default) = false) (fun i => ss.length - i) 0 ⟨Nat.zero_le _, fun j hj => absurd hj (by omega)⟩ ?_ ?_
  · refine Mv.mkW ?_ ?_ (Nat.le_of_ble_eq_true rfl) <;> (repeat' (first | exact WA.nil | refine WA.cons rfl ?_ ?_ | exact WB.nil | refine WB.cons ?_ ?_ | exact WT.nil | refine WT.cons ?_ ?_ | exact WH.nil | refine WH.cons ?_ ?_ | exact WR.nil | refine WR.cons rfl ?_ ?_ | refine WO.vr ?_ | exact WO.dead | exact WO.mpS | refine WO.mpA ?_ | refine WO.arrA ?_ | exact WS.u | refine WS.c ?_ | refine WS.a ?_ | refine WS.t ?_ | exact WL.nil | refine WL.cons ?_ ?_ | exact WTL.nil | refine WTL.consC ?_ ?_ | refine WTL.consL ?_ ?_ | exact WC.nils | exact WC.nil rfl | exact WC.nilp | refine WC.fzA | exact WC.ptr rfl (Nat.le_of_ble_eq_true rfl) | exact WC.mpr rfl (Nat.le_of_ble_eq_true rfl) | refine WC.slA | refine WC.intA | refine WC.int ?_ | refine WC.boolA | refine WC.bool ?_ | refine WC.strA | refine WC.str ?_ | exact WC.imm rfl))
    exact WC.fnI fun j _ => capL_imm l e j
  · intro k ⟨hk, hs⟩
    conv => whnf
    repeat' ((first | refine Need.auto ?_ | refine Have.mk (fun _h => ?_)); conv => whnf)
    (first | refine Br.lt (fun h1 => ?_) (fun h1 => ?_) | refine Br.le (fun h1 => ?_) (fun h1 => ?_) | refine Br.gt (fun h1 => ?_) (fun h1 => ?_) | refine Br.ge (fun h1 => ?_) (fun h1 => ?_) | refine Br.eq (fun h1 => ?_) (fun h1 => ?_) | refine Br.ne (fun h1 => ?_) (fun h1 => ?_) | refine Br.not (fun h1 => ?_) (fun h1 => ?_) | refine Br.mk (fun h1 => ?_) (fun h1 => ?_)) <;> (try simp only [Int.toNat_natCast] at h1) <;> (conv => whnf)
    · repeat' ((first | refine Need.auto ?_ | refine Have.mk (fun _h => ?_)); conv => whnf)
      have e0 : (k : Int).toNat = k := by simp
      rw [e0]
      refine CallN.pureA cov60_body (cov60_spec l e (ss.getD k default) ) ?_
      conv => whnf
      repeat' ((first | refine Need.auto ?_ | refine Have.mk (fun _h => ?_)); conv => whnf)
      cases hb : beforeM l e.serial (ss.getD k default) with
      | true =>
        refine Br.yes rfl ?_
        conv => whnf
        repeat' ((first | refine Need.auto ?_ | refine Have.mk (fun _h => ?_)); conv => whnf)
        have hk' : k < ss.length := by omega
        have ek : ∀ j (h : j < ss.length), ss.getD j default = ss[j] := fun j h => by simp [List.getD, h]
        have h1' : ss.any (fun s => beforeM l e.serial s) = true := by
          rw [List.any_eq_true]
          exact ⟨ss[k], List.getElem_mem hk', by rw [← ek k hk']; exact hb⟩
        have h2' : ss.findIdx (fun s => beforeM l e.serial s) = k := by
          rw [List.findIdx_eq hk']
          refine ⟨by rw [← ek k hk']; exact hb, fun j hj => ?_⟩
          rw [← ek j (by omega)]
          exact hs j hj
        rw [if_pos h1', h2']
        refine RM.immW rfl ?_; (repeat' (first | exact WA.nil | refine WA.cons rfl ?_ ?_ | exact WB.nil | refine WB.cons ?_ ?_ | exact WT.nil | refine WT.cons ?_ ?_ | exact WH.nil | refine WH.cons ?_ ?_ | exact WR.nil | refine WR.cons rfl ?_ ?_ | refine WO.vr ?_ | exact WO.dead | exact WO.mpS | refine WO.mpA ?_ | refine WO.arrA ?_ | exact WS.u | refine WS.c ?_ | refine WS.a ?_ | refine WS.t ?_ | exact WL.nil | refine WL.cons ?_ ?_ | exact WTL.nil | refine WTL.consC ?_ ?_ | refine WTL.consL ?_ ?_ | exact WC.nils | exact WC.nil rfl | exact WC.nilp | refine WC.fzA | exact WC.ptr rfl (Nat.le_of_ble_eq_true rfl) | exact WC.mpr rfl (Nat.le_of_ble_eq_true rfl) | refine WC.slA | refine WC.intA | refine WC.int ?_ | refine WC.boolA | refine WC.bool ?_ | refine WC.strA | refine WC.str ?_ | exact WC.imm rfl))
      | false =>
        refine Br.no rfl ?_
        conv => whnf
        repeat' ((first | refine Need.auto ?_ | refine Have.mk (fun _h => ?_)); conv => whnf)
        refine ⟨k + 1, ⟨by omega, fun j hj => ?_⟩, by omega, ?_⟩
        · by_cases c : j = k
          · subst c; exact hb
          · exact hs j (by omega)
        refine Mv.mkW ?_ ?_ (Nat.le_of_ble_eq_true rfl) <;> (repeat' (first | exact WA.nil | refine WA.cons rfl ?_ ?_ | exact WB.nil | refine WB.cons ?_ ?_ | exact WT.nil | refine WT.cons ?_ ?_ | exact WH.nil | refine WH.cons ?_ ?_ | exact WR.nil | refine WR.cons rfl ?_ ?_ | refine WO.vr ?_ | exact WO.dead | exact WO.mpS | refine WO.mpA ?_ | refine WO.arrA ?_ | exact WS.u | refine WS.c ?_ | refine WS.a ?_ | refine WS.t ?_ | exact WL.nil | refine WL.cons ?_ ?_ | exact WTL.nil | refine WTL.consC ?_ ?_ | refine WTL.consL ?_ ?_ | exact WC.nils | exact WC.nil rfl | exact WC.nilp | refine WC.fzA | exact WC.ptr rfl (Nat.le_of_ble_eq_true rfl) | exact WC.mpr rfl (Nat.le_of_ble_eq_true rfl) | refine WC.slA | refine WC.intA | refine WC.int ?_ | refine WC.boolA | refine WC.bool ?_ | refine WC.strA | refine WC.str ?_ | exact WC.imm rfl))
        exact WC.fnI fun j _ => capL_imm l e j
    · repeat' ((first | refine Need.auto ?_ | refine Have.mk (fun _h => ?_)); conv => whnf)
      have h1' : ¬ ss.any (fun s => beforeM l e.serial s) = true := by
        rw [List.any_eq_true]
        rintro ⟨x, hx, hp⟩
        obtain ⟨j, hj, rfl⟩ := List.getElem_of_mem hx
        have := hs j (by omega)
        rw [show ss.getD j default = ss[j] by simp [List.getD, hj]] at this
        rw [this] at hp
        cases hp
      rw [if_neg h1']
      refine RM.immW rfl ?_; (repeat' (first | exact WA.nil | refine WA.cons rfl ?_ ?_ | exact WB.nil | refine WB.cons ?_ ?_ | exact WT.nil | refine WT.cons ?_ ?_ | exact WH.nil | refine WH.cons ?_ ?_ | exact WR.nil | refine WR.cons rfl ?_ ?_ | refine WO.vr ?_ | exact WO.dead | exact WO.mpS | refine WO.mpA ?_ | refine WO.arrA ?_ | exact WS.u | refine WS.c ?_ | refine WS.a ?_ | refine WS.t ?_ | exact WL.nil | refine WL.cons ?_ ?_ | exact WTL.nil | refine WTL.consC ?_ ?_ | refine WTL.consL ?_ ?_ | exact WC.nils | exact WC.nil rfl | exact WC.nilp | refine WC.fzA | exact WC.ptr rfl (Nat.le_of_ble_eq_true rfl) | exact WC.mpr rfl (Nat.le_of_ble_eq_true rfl) | refine WC.slA | refine WC.intA | refine WC.int ?_ | refine WC.boolA | refine WC.bool ?_ | refine WC.strA | refine WC.str ?_ | exact WC.imm rfl))
theorem indexFunc_body : HasBody Try.prog 75 := ⟨⟨Try.f75, Try.func75, rfl, by kernel_rfl⟩⟩
theorem containsFunc_spec (l : List Evt) (e : Evt) (ss : List Int) : PSpec Try.prog 59 [.c (intsC ss), .c (.fn (.func 60) 2 (capL l e))] (.c (.bool (ss.any fun s => beforeM l e.serial s))) := by
  refine PSpec.rm ?_
  refine CSpec.of_vc hΓ Try.func59 rfl 9 0 [.tmp 4] Try.ntmps59 rfl (by rw [Try.results59]) rfl ?_
  conv => whnf
  repeat' ((first | refine Need.auto ?_ | refine Have.mk (fun _h => ?_)); conv => whnf)
  refine CallN.reads indexFunc_body (indexFunc_spec l e ss) (BwA.cons (BwS.c (Bw.same rfl)) (BwA.cons (BwS.c (Bw.fn fun j _ => Bw.same (capL_imm l e j))) BwA.nil)) rfl ?_
  conv => whnf
  repeat' ((first | refine Need.auto ?_ | refine Have.mk (fun _h => ?_)); conv => whnf)
  refine RM.immW rfl ?_; (repeat' (first | exact WA.nil | refine WA.cons rfl ?_ ?_ | exact WB.nil | refine WB.cons ?_ ?_ | exact WT.nil | refine WT.cons ?_ ?_ | exact WH.nil | refine WH.cons ?_ ?_ | exact WR.nil | refine WR.cons rfl ?_ ?_ | refine WO.vr ?_ | exact WO.dead | exact WO.mpS | refine WO.mpA ?_ | refine WO.arrA ?_ | exact WS.u | refine WS.c ?_ | refine WS.a ?_ | refine WS.t ?_ | exact WL.nil | refine WL.cons ?_ ?_ | exact WTL.nil | refine WTL.consC ?_ ?_ | refine WTL.consL ?_ ?_ | exact WC.nils | exact WC.nil rfl | exact WC.nilp | refine WC.fzA | exact WC.ptr rfl (Nat.le_of_ble_eq_true rfl) | exact WC.mpr rfl (Nat.le_of_ble_eq_true rfl) | refine WC.slA | refine WC.intA | refine WC.int ?_ | refine WC.boolA | refine WC.bool ?_ | refine WC.strA | refine WC.str ?_ | exact WC.imm rfl))
  cases ss.any fun s => beforeM l e.serial s with
  | true => simp
  | false => rfl
theorem containsFunc_body : HasBody Try.prog 59 := ⟨⟨Try.f59, Try.func59, rfl, by kernel_rfl⟩⟩
theorem indexS_spec (ss : List ByteArray) (v : ByteArray) : PSpec Try.prog 81 [.c (strsC ss), .c (.str v)] (.c (.int .i64 (if memB ss v = true then (ss.findIdx fun x => decide (x = v) : Nat) else -1))) := by
  refine PSpec.rm ?_
  refine CSpec.of_vc hΓ Try.func81 rfl 19 0 [.tmp 4] Try.ntmps81 rfl (by rw [Try.results81]) rfl ?_
  conv => whnf
  repeat' ((first | refine Need.auto ?_ | refine Have.mk (fun _h => ?_)); conv => whnf)
  refine Lp.mkK hΓ (ι := Nat) [0, 1, 7] (fun i => [(8, .c (.int .i64 i))]) (fun i => []) (fun i => i ≤ ss.length ∧ ∀ j, j < i → ss.getD j ByteArray.empty ≠ v) (fun i => ss.length - i) 0 ⟨Nat.zero_le _, fun j hj => absurd hj (by omega)⟩ ?_ ?_
  · refine Mv.mkW ?_ ?_ (Nat.le_of_ble_eq_true rfl) <;> (repeat' (first | exact WA.nil | refine WA.cons rfl ?_ ?_ | exact WB.nil | refine WB.cons ?_ ?_ | exact WT.nil | refine WT.cons ?_ ?_ | exact WH.nil | refine WH.cons ?_ ?_ | exact WR.nil | refine WR.cons rfl ?_ ?_ | refine WO.vr ?_ | exact WO.dead | exact WO.mpS | refine WO.mpA ?_ | refine WO.arrA ?_ | exact WS.u | refine WS.c ?_ | refine WS.a ?_ | refine WS.t ?_ | exact WL.nil | refine WL.cons ?_ ?_ | exact WTL.nil | refine WTL.consC ?_ ?_ | refine WTL.consL ?_ ?_ | exact WC.nils | exact WC.nil rfl | exact WC.nilp | refine WC.fzA | exact WC.ptr rfl (Nat.le_of_ble_eq_true rfl) | exact WC.mpr rfl (Nat.le_of_ble_eq_true rfl) | refine WC.slA | refine WC.intA | refine WC.int ?_ | refine WC.boolA | refine WC.bool ?_ | refine WC.strA | refine WC.str ?_ | exact WC.imm rfl))
  · intro k ⟨hk, hs⟩
    have ek : ∀ j (h : j < ss.length), ss.getD j ByteArray.empty = ss[j] := fun j h => by simp [List.getD, h]
    conv => whnf
    repeat' ((first | refine Need.auto ?_ | refine Have.mk (fun _h => ?_)); conv => whnf)
    (first | refine Br.lt (fun h1 => ?_) (fun h1 => ?_) | refine Br.le (fun h1 => ?_) (fun h1 => ?_) | refine Br.gt (fun h1 => ?_) (fun h1 => ?_) | refine Br.ge (fun h1 => ?_) (fun h1 => ?_) | refine Br.eq (fun h1 => ?_) (fun h1 => ?_) | refine Br.ne (fun h1 => ?_) (fun h1 => ?_) | refine Br.not (fun h1 => ?_) (fun h1 => ?_) | refine Br.mk (fun h1 => ?_) (fun h1 => ?_)) <;> (try simp only [Int.toNat_natCast] at h1) <;> (conv => whnf)
    · repeat' ((first | refine Need.auto ?_ | refine Have.mk (fun _h => ?_)); conv => whnf)
      have e0 : (k : Int).toNat = k := by simp
      rw [e0]
      have hk' : k < ss.length := by omega
      by_cases hb : v = ss.getD k ByteArray.empty
      · refine Br.yes (decide_eq_true hb) ?_
        conv => whnf
        repeat' ((first | refine Need.auto ?_ | refine Have.mk (fun _h => ?_)); conv => whnf)
        have h1' : memB ss v = true := by
          rw [memB_iff, hb, ek k hk']
          exact List.getElem_mem hk'
        have h2' : ss.findIdx (fun x => decide (x = v)) = k := by
          rw [List.findIdx_eq hk']
          refine ⟨by rw [← ek k hk']; exact decide_eq_true hb.symm, fun j hj => ?_⟩
          rw [← ek j (by omega)]
          exact decide_eq_false (hs j hj)
        rw [if_pos h1', h2']
        refine RM.immW rfl ?_; (repeat' (first | exact WA.nil | refine WA.cons rfl ?_ ?_ | exact WB.nil | refine WB.cons ?_ ?_ | exact WT.nil | refine WT.cons ?_ ?_ | exact WH.nil | refine WH.cons ?_ ?_ | exact WR.nil | refine WR.cons rfl ?_ ?_ | refine WO.vr ?_ | exact WO.dead | exact WO.mpS | refine WO.mpA ?_ | refine WO.arrA ?_ | exact WS.u | refine WS.c ?_ | refine WS.a ?_ | refine WS.t ?_ | exact WL.nil | refine WL.cons ?_ ?_ | exact WTL.nil | refine WTL.consC ?_ ?_ | refine WTL.consL ?_ ?_ | exact WC.nils | exact WC.nil rfl | exact WC.nilp | refine WC.fzA | exact WC.ptr rfl (Nat.le_of_ble_eq_true rfl) | exact WC.mpr rfl (Nat.le_of_ble_eq_true rfl) | refine WC.slA | refine WC.intA | refine WC.int ?_ | refine WC.boolA | refine WC.bool ?_ | refine WC.strA | refine WC.str ?_ | exact WC.imm rfl))
      · refine Br.no (decide_eq_false hb) ?_
        conv => whnf
        repeat' ((first | refine Need.auto ?_ | refine Have.mk (fun _h => ?_)); conv => whnf)
        refine ⟨k + 1, ⟨by omega, fun j hj => ?_⟩, by omega, ?_⟩
        · by_cases c : j = k
          · subst c; exact fun e => hb e.symm
          · exact hs j (by omega)
        refine Mv.mkW ?_ ?_ (Nat.le_of_ble_eq_true rfl) <;> (repeat' (first | exact WA.nil | refine WA.cons rfl ?_ ?_ | exact WB.nil | refine WB.cons ?_ ?_ | exact WT.nil | refine WT.cons ?_ ?_ | exact WH.nil | refine WH.cons ?_ ?_ | exact WR.nil | refine WR.cons rfl ?_ ?_ | refine WO.vr ?_ | exact WO.dead | exact WO.mpS | refine WO.mpA ?_ | refine WO.arrA ?_ | exact WS.u | refine WS.c ?_ | refine WS.a ?_ | refine WS.t ?_ | exact WL.nil | refine WL.cons ?_ ?_ | exact WTL.nil | refine WTL.consC ?_ ?_ | refine WTL.consL ?_ ?_ | exact WC.nils | exact WC.nil rfl | exact WC.nilp | refine WC.fzA | exact WC.ptr rfl (Nat.le_of_ble_eq_true rfl) | exact WC.mpr rfl (Nat.le_of_ble_eq_true rfl) | refine WC.slA | refine WC.intA | refine WC.int ?_ | refine WC.boolA | refine WC.bool ?_ | refine WC.strA | refine WC.str ?_ | exact WC.imm rfl))
    · repeat' ((first | refine Need.auto ?_ | refine Have.mk (fun _h => ?_)); conv => whnf)
      have h1' : ¬ memB ss v = true := by
        rw [memB_iff]
        intro hx
        obtain ⟨j, hj, e⟩ := List.getElem_of_mem hx
        exact hs j (by omega) (by rw [ek j hj, e])
      rw [if_neg h1']
      refine RM.immW rfl ?_; (repeat' (first | exact WA.nil | refine WA.cons rfl ?_ ?_ | exact WB.nil | refine WB.cons ?_ ?_ | exact WT.nil | refine WT.cons ?_ ?_ | exact WH.nil | refine WH.cons ?_ ?_ | exact WR.nil | refine WR.cons rfl ?_ ?_ | refine WO.vr ?_ | exact WO.dead | exact WO.mpS | refine WO.mpA ?_ | refine WO.arrA ?_ | exact WS.u | refine WS.c ?_ | refine WS.a ?_ | refine WS.t ?_ | exact WL.nil | refine WL.cons ?_ ?_ | exact WTL.nil | refine WTL.consC ?_ ?_ | refine WTL.consL ?_ ?_ | exact WC.nils | exact WC.nil rfl | exact WC.nilp | refine WC.fzA | exact WC.ptr rfl (Nat.le_of_ble_eq_true rfl) | exact WC.mpr rfl (Nat.le_of_ble_eq_true rfl) | refine WC.slA | refine WC.intA | refine WC.int ?_ | refine WC.boolA | refine WC.bool ?_ | refine WC.strA | refine WC.str ?_ | exact WC.imm rfl))
theorem indexS_body : HasBody Try.prog 81 := ⟨⟨Try.f81, Try.func81, rfl, by kernel_rfl⟩⟩
theorem contains_spec (ss : List ByteArray) (v : ByteArray) : PSpec Try.prog 73 [.c (strsC ss), .c (.str v)] (.c (.bool (memB ss v))) := by
  refine PSpec.rm ?_
  refine CSpec.of_vc hΓ Try.func73 rfl 9 0 [.tmp 4] Try.ntmps73 rfl (by rw [Try.results73]) rfl ?_
  conv => whnf
  repeat' ((first | refine Need.auto ?_ | refine Have.mk (fun _h => ?_)); conv => whnf)
  refine CallN.pureA indexS_body (indexS_spec ss v ) ?_
  conv => whnf
  repeat' ((first | refine Need.auto ?_ | refine Have.mk (fun _h => ?_)); conv => whnf)
  refine RM.immW rfl ?_; (repeat' (first | exact WA.nil | refine WA.cons rfl ?_ ?_ | exact WB.nil | refine WB.cons ?_ ?_ | exact WT.nil | refine WT.cons ?_ ?_ | exact WH.nil | refine WH.cons ?_ ?_ | exact WR.nil | refine WR.cons rfl ?_ ?_ | refine WO.vr ?_ | exact WO.dead | exact WO.mpS | refine WO.mpA ?_ | refine WO.arrA ?_ | exact WS.u | refine WS.c ?_ | refine WS.a ?_ | refine WS.t ?_ | exact WL.nil | refine WL.cons ?_ ?_ | exact WTL.nil | refine WTL.consC ?_ ?_ | refine WTL.consL ?_ ?_ | exact WC.nils | exact WC.nil rfl | exact WC.nilp | refine WC.fzA | exact WC.ptr rfl (Nat.le_of_ble_eq_true rfl) | exact WC.mpr rfl (Nat.le_of_ble_eq_true rfl) | refine WC.slA | refine WC.intA | refine WC.int ?_ | refine WC.boolA | refine WC.bool ?_ | refine WC.strA | refine WC.str ?_ | exact WC.imm rfl))
  cases memB ss v with
  | true => simp
  | false => rfl
theorem contains_body : HasBody Try.prog 73 := ⟨⟨Try.f73, Try.func73, rfl, by kernel_rfl⟩⟩
end Go.Proofs
end

section
open Go Go.Am
namespace Go.Proofs
theorem Try.layExtra : Builder.Extra Try.prog Try.layRepeat_ren where
  sizeBuilder := by kernel_rfl
  liesBuilder := by kernel_rfl
  t5 := Try.layRepeat.t5
  a5 := Try.layRepeat.a5
  z5 := Try.layRepeat.z5
  v5 := Try.layRepeat.v5
  infoByte := by kernel_rfl
  cellsByte := by kernel_rfl
  sizeByte := by kernel_rfl
  neB5 := by decide
def strTo (x : List UInt8) : ByteArray := ⟨x.toArray⟩
def sortB (l : List ByteArray) : List ByteArray := ((l.map fun b => b.data.toList).mergeSort fun x y => decide (x ≤ y)).map strTo
theorem strTo_data (b : ByteArray) : strTo b.data.toList = b := by
  cases b; simp [strTo]
theorem sortB_perm (l : List ByteArray) : (sortB l).Perm l := by
  unfold sortB
  have := (List.mergeSort_perm (l.map fun b => b.data.toList) fun x y => decide (x ≤ y)).map strTo
  rw [List.map_map] at this
  have e : (strTo ∘ fun b : ByteArray => b.data.toList) = id := by
    funext b; exact strTo_data b
  rw [e, List.map_id] at this
  exact this
theorem sortB_len (l : List ByteArray) : (sortB l).length = l.length := (sortB_perm l).length_eq
theorem sortB_sorted (l : List ByteArray) : (sortB l).Pairwise fun a b => strLt b a = false := by
  unfold sortB
  rw [List.pairwise_map]
  have := List.pairwise_mergeSort (le := fun x y : List UInt8 => decide (x ≤ y)) (fun a b c h k => by
    simp only [decide_eq_true_eq] at *
    exact List.le_trans h k) (fun a b => by
    rcases List.le_total a b with h | h <;> simp [h]) (l.map fun b => b.data.toList)
  refine this.imp fun {a b} h => ?_
  rw [strLt_eq]
  simp only [strTo]
  exact decide_eq_false (List.not_lt.2 (of_decide_eq_true h))
theorem getD_map_data {l : List ByteArray} {j : Nat} (h : j < l.length) : l.getD j ByteArray.empty = l[j] := by simp [List.getD, h]
theorem sort_spec (e : Nat) (l : List ByteArray) (hl : l.length ≤ 100000) : CSpec Try.prog 62 [.c (.sl 0 1 l.length l.length false)] [.arr e 1 l.length (strG l)] fun s H => s = .u ∧ H = [.arr e 1 l.length (strG (sortB l))] := by
  by_cases h0 : l.length = 0
  · have e0 : l = [] := List.length_eq_zero_iff.1 h0
    subst e0
    have es : sortB [] = [] := by simp [sortB]
    rw [es]
    intro K F μ w vs hw hA
    obtain ⟨v, v1, v2⟩ := hA.2 0 _ rfl
    obtain ⟨_, e', n', g', y1, y2, y3, y4⟩ := v2
    have en : n' = 0 := by
      cases y1; rfl
    obtain ⟨a, cap', z1, z2, -⟩ := y4 en.symm
    have hvs : vs = #[.slice a 0 cap'] := by
      apply Array.ext_getElem?
      intro j
      match j with
      | 0 => rw [v1, z2]; rfl
      | j + 1 =>
        rw [Array.getElem?_eq_none (by rw [hA.1]; simp), Array.getElem?_eq_none (by simp)]
    subst hvs
    refine (AnyM.slices_Sort_string_none Try.laySort a cap' w).mono ?_
    rintro ex w' ⟨rfl, rfl⟩
    exact ⟨_, F, μ, .u, _, rfl, Mem.le_refl F, hw, Ext.refl _ μ, trivial, rfl, rfl⟩
  · refine CSpec.row (enc := encStr) (d := (l.map fun b => b.data.toList).toArray) (d' := ((l.map fun b => b.data.toList).mergeSort fun x y => decide (x ≤ y)).toArray) (res := fun _ _ => .tuple #[]) (by omega) (by simp) (by simp) ?_ ?_ ?_ ?_ ?_
    · intro j hj
      rw [getD_map_data hj]
      simp [hj, encStr]
    · intro j hj
      rw [getD_map_data (by rw [sortB_len]; exact hj)]
      simp [hj, sortB, strTo, encStr]
    · intro hs j hj
      rw [getD_map_data (by rw [sortB_len]; exact hj)]
      have hm := (sortB_perm l).mem_iff.1 (List.getElem_mem (show j < (sortB l).length by rw [sortB_len]; exact hj))
      obtain ⟨i, hi, e⟩ := List.getElem_of_mem hm
      have := hs i hi
      rw [getD_map_data hi, e] at this
      exact this
    · intros; trivial
    · intro b cap w hH hb h1 h2
      have := AnyM.slices_Sort_string Try.laySort b 0 cap (l.map fun b => b.data.toList) w hH hb (by simp; omega)
      rw [List.length_map] at this
      exact this
theorem sort_body : HasBody Try.prog 62 := ⟨⟨Try.f62, Try.func62, rfl, by kernel_rfl⟩⟩
theorem repeat_spec : PSpec Try.prog 76 [.c (.str ⟨#[0]⟩), .c (.int .i64 16)] (.c (.str zeroB)) := by
  refine PSpec.ofCalls fun F μ w vs hA => ?_
  have hvs : vs = #[.string ⟨#[0]⟩, .int .i64 16] := by
    obtain ⟨v0, a1, a2, -⟩ := hA.2 0 _ rfl
    obtain ⟨v1, b1, b2⟩ := hA.2 1 _ rfl
    rw [a2] at a1
    rw [show v1 = _ from b2] at b1
    apply Array.ext_getElem?
    intro j
    match j with
    | 0 => rw [a1]; rfl
    | 1 => rw [b1]; rfl
    | j + 2 =>
      rw [Array.getElem?_eq_none (by rw [hA.1]; simp), Array.getElem?_eq_none (by simp)]
  subst hvs
  refine ⟨.string zeroB, fun F' μ' => ⟨rfl, by decide⟩, ?_⟩
  exact Any.strings_Repeat Try.layRepeat Try.layExtra ⟨#[0]⟩ 16 w (by decide) (by decide)
theorem repeat_body : HasBody Try.prog 76 := ⟨⟨Try.f76, Try.func76, rfl, by kernel_rfl⟩⟩
theorem zero_spec : PSpec Try.prog 61 [] (.c (.str zeroB)) := by
  refine PSpec.rm ?_
  refine CSpec.of_vc hΓ Try.func61 rfl 2 0 [.tmp 0] Try.ntmps61 rfl (by rw [Try.results61]) rfl ?_
  conv => whnf
  repeat' ((first | refine Need.auto ?_ | refine Have.mk (fun _h => ?_)); conv => whnf)
  refine CallN.pureA repeat_body (repeat_spec ) ?_
  conv => whnf
  repeat' ((first | refine Need.auto ?_ | refine Have.mk (fun _h => ?_)); conv => whnf)
  refine RM.immW rfl ?_; (repeat' (first | exact WA.nil | refine WA.cons rfl ?_ ?_ | exact WB.nil | refine WB.cons ?_ ?_ | exact WT.nil | refine WT.cons ?_ ?_ | exact WH.nil | refine WH.cons ?_ ?_ | exact WR.nil | refine WR.cons rfl ?_ ?_ | refine WO.vr ?_ | exact WO.dead | exact WO.mpS | refine WO.mpA ?_ | refine WO.arrA ?_ | exact WS.u | refine WS.c ?_ | refine WS.a ?_ | refine WS.t ?_ | exact WL.nil | refine WL.cons ?_ ?_ | exact WTL.nil | refine WTL.consC ?_ ?_ | refine WTL.consL ?_ ?_ | exact WC.nils | exact WC.nil rfl | exact WC.nilp | refine WC.fzA | exact WC.ptr rfl (Nat.le_of_ble_eq_true rfl) | exact WC.mpr rfl (Nat.le_of_ble_eq_true rfl) | refine WC.slA | refine WC.intA | refine WC.int ?_ | refine WC.boolA | refine WC.bool ?_ | refine WC.strA | refine WC.str ?_ | exact WC.imm rfl))
theorem zero_body : HasBody Try.prog 61 := ⟨⟨Try.f61, Try.func61, rfl, by kernel_rfl⟩⟩
end Go.Proofs
end

section
open Go Go.Am Go.Lib
namespace Go.Proofs
def compB (l : List ByteArray) : List ByteArray := compactUpTo l.toArray l.length
theorem getBang {l : List ByteArray} {i : Nat} (h : i < l.length) : l.toArray[i]! = l[i] := by simp [h]
theorem compB_upto {l : List ByteArray} (hs : l.Pairwise fun a b => strLt b a = false) : ∀ m, m ≤ l.length → asc (compactUpTo l.toArray m) ∧ ∀ x, x ∈ compactUpTo l.toArray m ↔ ∃ i, i < m ∧ l.toArray[i]! = x
  | 0, _ => ⟨by simp [compactUpTo, asc], fun x => by simp [compactUpTo]⟩
  | m + 1, hm => by
    obtain ⟨h1, h2⟩ := compB_upto hs m (by omega)
    rw [List.pairwise_iff_getElem] at hs
    have le : ∀ i j, i ≤ j → (hj : j < l.length) → strLt l.toArray[j]! l.toArray[i]! = false := fun i j hij hj => by
      rw [getBang hj, getBang (by omega : i < l.length)]
      by_cases c : i = j
      · subst c; exact strLt_irrefl _
      · exact hs i j (by omega) hj (by omega)
    rw [compactUpTo_succ]
    by_cases hk : keeps l.toArray m = true
    · rw [if_pos hk]
      refine ⟨?_, fun x => ?_⟩
      · unfold asc at h1 ⊢
        rw [List.pairwise_append]
        refine ⟨h1, by simp, fun a ha b hb => ?_⟩
        rw [List.mem_singleton] at hb
        subst hb
        obtain ⟨i, hi, rfl⟩ := (h2 a).1 ha
        refine strLt_tri (le i m (by omega) (by omega)) (fun e => ?_)
        have hne : l.toArray[m]! ≠ l.toArray[m - 1]! := by
          unfold keeps at hk
          rw [decide_eq_true_eq] at hk
          rcases hk with c | c
          · omega
          · exact c
        have q1 := le i (m - 1) (by omega) (by omega)
        have q2 := le (m - 1) m (by omega) (by omega)
        rw [e] at q2
        have q3 := strLt_tri q1
        by_cases c : l.toArray[m - 1]! = l.toArray[i]!
        · exact hne (e.trans c.symm)
        · have := strLt_tri q1 c
          rw [q2] at this
          cases this
      · rw [List.mem_append, h2, List.mem_singleton]
        constructor
        · rintro (⟨i, hi, e⟩ | e)
          · exact ⟨i, by omega, e⟩
          · exact ⟨m, by omega, e.symm⟩
        · rintro ⟨i, hi, e⟩
          by_cases c : i = m
          · subst c; exact .inr e.symm
          · exact .inl ⟨i, by omega, e⟩
    · rw [if_neg hk, List.append_nil]
      refine ⟨h1, fun x => ?_⟩
      rw [h2]
      constructor
      · rintro ⟨i, hi, e⟩
        exact ⟨i, by omega, e⟩
      · rintro ⟨i, hi, e⟩
        by_cases c : i = m
        · subst c
          unfold keeps at hk
          simp only [decide_eq_true_eq, not_or, ne_eq, Decidable.not_not] at hk
          exact ⟨i - 1, by omega, by rw [← hk.2]; exact e⟩
        · exact ⟨i, by omega, e⟩
theorem compB_asc {l : List ByteArray} (hs : l.Pairwise fun a b => strLt b a = false) : asc (compB l) ∧ ∀ x, x ∈ compB l ↔ x ∈ l := by
  obtain ⟨h1, h2⟩ := compB_upto hs l.length (Nat.le_refl _)
  refine ⟨h1, fun x => ?_⟩
  unfold compB
  rw [h2]
  constructor
  · rintro ⟨i, hi, rfl⟩
    rw [getBang hi]; exact List.getElem_mem hi
  · intro hx
    obtain ⟨i, hi, rfl⟩ := List.getElem_of_mem hx
    exact ⟨i, hi, getBang hi⟩
theorem compB_put (l : List ByteArray) : compB (sortB l) = putAll l := by
  obtain ⟨h1, h2⟩ := compB_asc (sortB_sorted l)
  refine asc_ext h1 (putAll_asc l) fun x => ?_
  rw [h2, mem_putAll, (sortB_perm l).mem_iff]
theorem compB_len (l : List ByteArray) : (compB l).length ≤ l.length := by
  unfold compB compactUpTo
  rw [List.length_map]
  exact Nat.le_trans (List.length_filter_le _ _) (by simp)
def compPad (l : List ByteArray) : List ByteArray := compB l ++ List.replicate (l.length - (compB l).length) ByteArray.empty
theorem compPad_len (l : List ByteArray) : (compPad l).length = l.length := by
  have := compB_len l
  unfold compPad
  rw [List.length_append, List.length_replicate]; omega
theorem eqlB (P : Program) (T : TypeId) : EqlAt P T Value.string (fun x y => decide (x = y)) := by
  have := EqlAt.string P T
  have e : (fun x y : ByteArray => x.toList == y.toList) = fun x y => decide (x = y) := by
    funext x y; exact bytes_beq x y
  rw [e] at this
  exact this
theorem neqB (P : Program) (T : TypeId) : NeqAt P T Value.string (fun x y => decide (x = y)) := by
  have := NeqAt.string P T
  have e : (fun x y : ByteArray => x.toList == y.toList) = fun x y => decide (x = y) := by
    funext x y; exact bytes_beq x y
  rw [e] at this
  exact this
theorem compact_spec (e : Nat) (l : List ByteArray) (h0 : 0 < l.length) (hl : l.length ≤ 100000) : CSpec Try.prog 63 [.c (.sl 0 1 l.length l.length false)] [.arr e 1 l.length (strG l)] fun s H => s = .c (.sl 0 1 (compB l).length l.length false) ∧ H = [.arr e 1 l.length (strG (compPad l))] := by
  refine CSpec.row (enc := Value.string) (d := l.toArray) (d' := (compactUpTo l.toArray l.toArray.size ++ List.replicate (l.toArray.size - (compactUpTo l.toArray l.toArray.size).length) ByteArray.empty).toArray) (res := fun b cap => .slice (some ⟨b, 0, none⟩) (compactUpTo l.toArray l.toArray.size).length cap) h0 (by simp) ?_ ?_ ?_ ?_ ?_ ?_
  · rw [List.size_toArray]; exact compPad_len l
  · intro j hj
    rw [getD_map_data hj, getBang hj]
  · intro j hj
    have hj2 : j < (compPad l).length := by rw [compPad_len]; exact hj
    rw [getD_map_data hj2]
    exact congrArg _ (getBang hj2)
  · intro hs j hj
    have hj2 : j < (compPad l).length := by rw [compPad_len]; exact hj
    rw [getD_map_data hj2]
    have hm := List.getElem_mem hj2
    unfold compPad at hm
    rcases List.mem_append.1 hm with c | c
    · unfold compB compactUpTo at c
      obtain ⟨i, hi, e⟩ := List.mem_map.1 c
      have hi' : i < l.length := by simpa using (List.mem_filter.1 hi).1
      have := hs i hi'
      rw [getD_map_data hi', ← getBang hi', e] at this
      exact this
    · have e3 := (List.mem_replicate.1 c).2
      unfold compPad
      rw [e3]
      exact Nat.zero_le _
  · intro F μ b cap hm
    exact ⟨rfl, e, l.length, _, rfl, Nat.le_refl _, compB_len l, fun _ => ⟨_, cap, hm, rfl, fun q => by cases q⟩⟩
  · intro b cap w hH hb h1 h2
    have := AnyE.slices_Compact Try.layCompact Value.string (fun _ => rfl) (eqlB _ _) (neqB _ _) ByteArray.empty Try.zeroValue9 b 0 cap l.toArray w hH (by simp; omega) (by simpa using h1)
    refine this.mono ?_
    rintro ex w' ⟨h3, q, h4⟩
    exact ⟨h3, q, #[], by rw [h4]; simp⟩
theorem compact_body : HasBody Try.prog 63 := ⟨⟨Try.f63, Try.func63, rfl, by kernel_rfl⟩⟩
end Go.Proofs
end
