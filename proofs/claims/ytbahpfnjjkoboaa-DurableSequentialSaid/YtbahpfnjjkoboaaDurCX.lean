/- Part of the proofs of laws of this seat: contracts and plain lemmas; no condition is added to a statement. -/
import Derived.Test.YtbahpfnjjkoboaaDurBX
set_option linter.unusedSimpArgs false
set_option linter.unusedVariables false
section
open Go Go.Am
namespace Go.Am
theorem WC.fnP {n : Nat} {f : Fn} {m : Nat} {g : Nat → C} (h : ∀ j, j < m → (g j).bel n = true) : WC idN n (.fn f m g) (.fn f m g) := ⟨⟨rfl, rfl, fun j hj => C.bel_ok (h j hj)⟩⟩
end Go.Am
namespace Go.Proofs
theorem Bw.ptr1 {H : List O} {id : Nat} {c : C} (hid : getL H id = some (.vr [c])) (hc : c.imm = true) : Bw H (.ptr id 0) (.ip 1 fun _ => c) := Bw.ptr hid fun j hj => by
  have : j = 0 := by omega
  subst this
  exact ⟨c, rfl, Bw.same hc⟩
theorem Bw.ptrE {H : List O} {id : Nat} {e : Evt} (hid : getL H id = some (.vr e.cells)) : Bw H (.ptr id 0) (.ip 8 e.cell) := Bw.ptr hid fun j hj => by
  refine ⟨e.cell j, ?_, Bw.same (evCell_imm e j)⟩
  match j, hj with
  | 0, _ => rfl
  | 1, _ => rfl
  | 2, _ => rfl
  | 3, _ => rfl
  | 4, _ => rfl
  | 5, _ => rfl
  | 6, _ => rfl
  | 7, _ => rfl
theorem intsSnoc {l : List Int} {x : Int} {t : List C} {i j : Nat} (hi : i < l.length + 1) (hj : j < 1) : appG (intsG .i64 l) l.length (flatG 1 (C.int .i64 x :: t)) i j = intsG .i64 (l ++ [x]) i j :=
  rowG_snoc (f := intC .i64) rfl (fun j hj => by
    have : j = 0 := by omega
    subst this; rfl) hi hj
theorem strsSnoc {l : List ByteArray} {x : ByteArray} {t : List C} {i j : Nat} (hi : i < l.length + 1) (hj : j < 1) : appG (strG l) l.length (flatG 1 (C.str x :: t)) i j = strG (l ++ [x]) i j := by
  have : j = 0 := by omega
  subst this
  simp only [appG, strG]
  by_cases c : i < l.length
  · rw [if_pos c]
    congr 1
    simp [List.getD, List.getElem?_append, c]
  · have : i = l.length := by omega
    subst this
    rw [if_neg (by omega)]
    simp [flatG, lget, getL, List.getD]
def hYes (l : List Evt) (b : Int) (st : List Int) (v : ByteArray) (ops : List Evt) (o : List ByteArray) : List O := [.vr [evC l], .vr [.int .i64 b], .arr 3 1 st.length (intsG .i64 st), .arr 9 1 1 (strG [v]), .arr 9 1 o.length (strG o), .arr 41 8 ops.length (evG ops)]
def hNo (l : List Evt) (b : Int) (st : List Int) (_ : ByteArray) (ops : List Evt) (o : List ByteArray) : List O := [.vr [evC l], .vr [.int .i64 b], .arr 3 1 st.length (intsG .i64 st), .arr 41 8 ops.length (evG ops), .arr 9 1 o.length (strG o)]
theorem strsOne {v : ByteArray} {t : List C} {i j : Nat} (hi : i < 1) (hj : j < 1) : flatG 1 (C.str v :: t) i j = strG [v] i j := by
  have e1 : i = 0 := by omega
  have e2 : j = 0 := by omega
  subst e1
  subst e2
  rfl
theorem padG {l : List ByteArray} {i j : Nat} (hi : i < (compB l).length) : strG (compPad l) i j = C.str ((compB l).getD i ByteArray.empty) := by
  unfold strG compPad
  congr 1
  simp [List.getD, List.getElem?_append, hi]
theorem compact0_spec (e : Nat) (g : Nat → Nat → C) : CSpec Try.prog 63 [.c (.sl 0 1 0 0 false)] [.arr e 1 0 g] fun s H => s = .c (.sl 0 1 0 0 false) ∧ H = [.arr e 1 0 g] := by
  refine CSpec.rm ?_
  refine CSpec.of_vc hΓ Try.func63 rfl 61 1 [.tmp 2] Try.ntmps63 rfl (by rw [Try.results63]) rfl ?_
  conv => whnf
  repeat' ((first | refine Need.auto ?_ | refine Have.mk (fun _h => ?_)); conv => whnf)
  refine Br.yes rfl ?_
  conv => whnf
  repeat' ((first | refine Need.auto ?_ | refine Have.mk (fun _h => ?_)); conv => whnf)
  exact ⟨_, _, RM.refl, rfl, rfl⟩
def settleE (e : Evt) (b : Int) : Bool := e.ret && changesE e b && decide (e.err = 0)
def settledM (l : List Evt) (b : Int) (n : Nat) : List Int := ((l.take n).filter fun e => settleE e b).map Evt.serial
def covM (l : List Evt) (st : List Int) (s : Int) : Bool := st.any fun x => beforeM l s x
def outD (l ops : List Evt) (b : Int) (st : List Int) (init : List ByteArray) : Nat → List ByteArray
  | 0 => init
  | i + 1 => if liveE (ops.getD i default) b = true ∧ covM l st (ops.getD i default).serial = false then outD l ops b st init i ++ [valueM (ops.getD i default)] else outD l ops b st init i
def initD (bs : List ByteArray) (b : Int) (st : List Int) : List ByteArray := if st = [] then [bs.getD b.toNat ByteArray.empty] else []
def allowedD (bs : List ByteArray) (l : List Evt) (b : Int) : List ByteArray :=
  if sizesM bs l ≠ 0 ∨ b < 0 ∨ (bs.length : Int) ≤ b then [] else
  putAll (outD l (operationsM l) b (settledM l b (pointM l)) (initD bs b (settledM l b (pointM l))) (operationsM l).length)
theorem settled_step {l : List Evt} {b : Int} {k : Nat} (hk : k < l.length) : settledM l b (k + 1) = if settleE (l.getD k default) b = true then settledM l b k ++ [(l.getD k default).serial] else settledM l b k := by
  unfold settledM
  rw [take_filter_succ hk]
  split
  · rw [List.map_append]; rfl
  · rfl
theorem settled_len (l : List Evt) (b : Int) (k : Nat) : (settledM l b k).length ≤ k := by
  unfold settledM
  rw [List.length_map]
  exact Nat.le_trans (List.length_filter_le _ _) (by rw [List.length_take]; omega)
theorem outD_len (l ops : List Evt) (b : Int) (st : List Int) (init : List ByteArray) : ∀ i, (outD l ops b st init i).length ≤ init.length + i
  | 0 => Nat.le_refl _
  | i + 1 => by
    have := outD_len l ops b st init i
    simp only [outD]
    split
    · rw [List.length_append]; simp; omega
    · omega
theorem initD_len (bs : List ByteArray) (b : Int) (st : List Int) : (initD bs b st).length ≤ 1 := by
  unfold initD; split <;> simp
set_option maxHeartbeats 4000000 in
theorem allowed_spec (bs : List ByteArray) (l : List Evt) (b : Int) (hl : l.length ≤ 10000000) : PSpec Try.prog 27 [.c (strsC bs), .c (evC l), .c (.int .i64 b)] (.c (strsC (allowedD bs l b))) := by
  refine PSpec.rm ?_
  refine CSpec.of_vc hΓ Try.func27 rfl 113 0 [.tmp 6] Try.ntmps27 rfl (by rw [Try.results27]) rfl ?_
  conv => whnf
  repeat' ((first | refine Need.auto ?_ | refine Have.mk (fun _h => ?_)); conv => whnf)
  refine CallN.pureA dbase_body (dbase_spec bs l hl ) ?_
  conv => whnf
  repeat' ((first | refine Need.auto ?_ | refine Have.mk (fun _h => ?_)); conv => whnf)
  by_cases h0 : sizesM bs l ≠ 0 ∨ b < 0 ∨ (bs.length : Int) ≤ b
  · refine Br.yes ?_ ?_
    · by_cases c : sizesM bs l = 0 <;> by_cases c2 : b < 0 <;> simp [c, c2]
      omega
    conv => whnf
    repeat' ((first | refine Need.auto ?_ | refine Have.mk (fun _h => ?_)); conv => whnf)
    have : allowedD bs l b = [] := by unfold allowedD; rw [if_pos h0]
    rw [this]
    refine RM.immW rfl ?_; (repeat' (first | exact WA.nil | refine WA.cons rfl ?_ ?_ | exact WB.nil | refine WB.cons ?_ ?_ | exact WT.nil | refine WT.cons ?_ ?_ | exact WH.nil | refine WH.cons ?_ ?_ | exact WR.nil | refine WR.cons rfl ?_ ?_ | refine WO.vr ?_ | exact WO.dead | exact WO.mpS | refine WO.mpA ?_ | refine WO.arrA ?_ | exact WS.u | refine WS.c ?_ | refine WS.a ?_ | refine WS.t ?_ | exact WL.nil | refine WL.cons ?_ ?_ | exact WTL.nil | refine WTL.consC ?_ ?_ | refine WTL.consL ?_ ?_ | exact WC.nils | exact WC.nil rfl | exact WC.nilp | refine WC.fzA | exact WC.ptr rfl (Nat.le_of_ble_eq_true rfl) | exact WC.mpr rfl (Nat.le_of_ble_eq_true rfl) | refine WC.slA | refine WC.intA | refine WC.int ?_ | refine WC.boolA | refine WC.bool ?_ | refine WC.strA | refine WC.str ?_ | exact WC.imm rfl))
  · refine Br.no ?_ ?_
    · have c : sizesM bs l = 0 := by omega
      have c2 : ¬ b < 0 := by omega
      simp [c, c2]
      omega
    conv => whnf
    repeat' ((first | refine Need.auto ?_ | refine Have.mk (fun _h => ?_)); conv => whnf)
    have hz := sizes_range (bs := bs) (l := l) (by omega)
    have hr : allowedD bs l b = putAll (outD l (operationsM l) b (settledM l b (pointM l)) (initD bs b (settledM l b (pointM l))) (operationsM l).length) := by
      unfold allowedD; rw [if_neg h0]
    have hpl : pointM l ≤ l.length := pointTo_le l l.length
    refine Dr.mk hΓ hMix (by kernel_rfl) ?_; conv => whnf
    repeat' ((first | refine Need.auto ?_ | refine Have.mk (fun _h => ?_)); conv => whnf)
    refine CallP.auto point_body (point_spec l hl ) ?_
    conv => whnf
    repeat' ((first | refine Need.auto ?_ | refine Have.mk (fun _h => ?_)); conv => whnf)
    have e9 : ((pointM l : Nat) : Int).toNat = pointM l := by simp
    rw [e9]
    rw [hr]
    have hb : 0 ≤ b ∧ b < (bs.length : Int) := by omega
    clear hr h0
    generalize pointM l = n at *
    refine Lp.reserve 3 1 (intsG .i64 []) 8 rfl ?_
    refine Lp.mkK hΓ (ι := Nat) [0, 4, 5, 7, 34, 35] (fun i => [(36, .c (.int .i64 i)), (8, .c (.sl 2 1 (settledM l b i).length (settledM l b i).length false))]) (fun i => [.vr [evC l], .vr [.int .i64 b], .arr 3 1 (settledM l b i).length (intsG .i64 (settledM l b i))]) (fun i => i ≤ n) (fun i => n - i) 0 (Nat.zero_le _) ?_ ?_
    · refine Mv.mkW ?_ ?_ (Nat.le_of_ble_eq_true rfl) <;> (repeat' (first | exact WA.nil | refine WA.cons rfl ?_ ?_ | exact WB.nil | refine WB.cons ?_ ?_ | exact WT.nil | refine WT.cons ?_ ?_ | exact WH.nil | refine WH.cons ?_ ?_ | exact WR.nil | refine WR.cons rfl ?_ ?_ | refine WO.vr ?_ | exact WO.dead | exact WO.mpS | refine WO.mpA ?_ | refine WO.arrA ?_ | exact WS.u | refine WS.c ?_ | refine WS.a ?_ | refine WS.t ?_ | exact WL.nil | refine WL.cons ?_ ?_ | exact WTL.nil | refine WTL.consC ?_ ?_ | refine WTL.consL ?_ ?_ | exact WC.nils | exact WC.nil rfl | exact WC.nilp | refine WC.fzA | exact WC.ptr rfl (Nat.le_of_ble_eq_true rfl) | exact WC.mpr rfl (Nat.le_of_ble_eq_true rfl) | refine WC.slA | refine WC.intA | refine WC.int ?_ | refine WC.boolA | refine WC.bool ?_ | refine WC.strA | refine WC.str ?_ | exact WC.imm rfl))
      all_goals try (refine WC.fnP ?_; intro j hj; have hj0 : j = 0 := (by have : j < 1 := hj; omega); subst hj0; rfl)
      intro i hi; omega
    · intro k hk
      have hsl := settled_len l b k
      conv => whnf
      repeat' ((first | refine Need.auto ?_ | refine Have.mk (fun _h => ?_)); conv => whnf)
      (first | refine Br.lt (fun h1 => ?_) (fun h1 => ?_) | refine Br.le (fun h1 => ?_) (fun h1 => ?_) | refine Br.gt (fun h1 => ?_) (fun h1 => ?_) | refine Br.ge (fun h1 => ?_) (fun h1 => ?_) | refine Br.eq (fun h1 => ?_) (fun h1 => ?_) | refine Br.ne (fun h1 => ?_) (fun h1 => ?_) | refine Br.not (fun h1 => ?_) (fun h1 => ?_) | refine Br.mk (fun h1 => ?_) (fun h1 => ?_)) <;> (try simp only [Int.toNat_natCast] at h1) <;> (conv => whnf)
      · repeat' ((first | refine Need.auto ?_ | refine Have.mk (fun _h => ?_)); conv => whnf)
        have e0 : (k : Int).toNat = k := by simp
        rw [e0]
        refine CallG.reads changes57_body (fun _ => changes57_spec (l.getD k default) b) (fun _ => BwA.cons (BwS.a (BwL.same rfl)) (BwA.cons (BwS.c (Bw.ptr1 rfl rfl)) BwA.nil)) rfl ?_
        conv => whnf
        repeat' ((first | refine Need.auto ?_ | refine Have.mk (fun _h => ?_)); conv => whnf)
        have hd : (bif (bif (l.getD k default).ret then changesE (l.getD k default) b else false) then (l.getD k default).err == 0 else false) = settleE (l.getD k default) b := by
          unfold settleE
          cases (l.getD k default).ret <;> cases changesE (l.getD k default) b <;> simp [-List.getD_eq_getElem?_getD]
          rfl
        have hk' : k < l.length := by omega
        have hst := settled_step (b := b) hk'
        cases hh : settleE (l.getD k default) b with
        | true =>
          refine Br.yes (hd.trans hh) ?_
          conv => whnf
          repeat' ((first | refine Need.auto ?_ | refine Have.mk (fun _h => ?_)); conv => whnf)
          rw [if_pos hh] at hst
          refine ⟨k + 1, by omega, by omega, ?_⟩
          rw [hst]
          refine Mv.mkW ?_ ?_ (Nat.le_of_ble_eq_true rfl) <;> (repeat' (first | exact WA.nil | refine WA.cons rfl ?_ ?_ | exact WB.nil | refine WB.cons ?_ ?_ | exact WT.nil | refine WT.cons ?_ ?_ | exact WH.nil | refine WH.cons ?_ ?_ | exact WR.nil | refine WR.cons rfl ?_ ?_ | refine WO.vr ?_ | exact WO.dead | exact WO.mpS | refine WO.mpA ?_ | refine WO.arrA ?_ | exact WS.u | refine WS.c ?_ | refine WS.a ?_ | refine WS.t ?_ | exact WL.nil | refine WL.cons ?_ ?_ | exact WTL.nil | refine WTL.consC ?_ ?_ | refine WTL.consL ?_ ?_ | exact WC.nils | exact WC.nil rfl | exact WC.nilp | refine WC.fzA | exact WC.ptr rfl (Nat.le_of_ble_eq_true rfl) | exact WC.mpr rfl (Nat.le_of_ble_eq_true rfl) | refine WC.slA | refine WC.intA | refine WC.int ?_ | refine WC.boolA | refine WC.bool ?_ | refine WC.strA | refine WC.str ?_ | exact WC.imm rfl))
          all_goals try (refine WC.fnP ?_; intro j hj; have hj0 : j = 0 := (by have : j < 1 := hj; omega); subst hj0; rfl)
          intro i hi j hj
          exact WC.eq (intsSnoc hi hj) rfl
        | false =>
          refine Br.no (hd.trans hh) ?_
          conv => whnf
          repeat' ((first | refine Need.auto ?_ | refine Have.mk (fun _h => ?_)); conv => whnf)
          rw [if_neg (by rw [hh]; simp)] at hst
          refine ⟨k + 1, by omega, by omega, ?_⟩
          rw [hst]
          refine Mv.mkW ?_ ?_ (Nat.le_of_ble_eq_true rfl) <;> (repeat' (first | exact WA.nil | refine WA.cons rfl ?_ ?_ | exact WB.nil | refine WB.cons ?_ ?_ | exact WT.nil | refine WT.cons ?_ ?_ | exact WH.nil | refine WH.cons ?_ ?_ | exact WR.nil | refine WR.cons rfl ?_ ?_ | refine WO.vr ?_ | exact WO.dead | exact WO.mpS | refine WO.mpA ?_ | refine WO.arrA ?_ | exact WS.u | refine WS.c ?_ | refine WS.a ?_ | refine WS.t ?_ | exact WL.nil | refine WL.cons ?_ ?_ | exact WTL.nil | refine WTL.consC ?_ ?_ | refine WTL.consL ?_ ?_ | exact WC.nils | exact WC.nil rfl | exact WC.nilp | refine WC.fzA | exact WC.ptr rfl (Nat.le_of_ble_eq_true rfl) | exact WC.mpr rfl (Nat.le_of_ble_eq_true rfl) | refine WC.slA | refine WC.intA | refine WC.int ?_ | refine WC.boolA | refine WC.bool ?_ | refine WC.strA | refine WC.str ?_ | exact WC.imm rfl))
          all_goals try (refine WC.fnP ?_; intro j hj; have hj0 : j = 0 := (by have : j < 1 := hj; omega); subst hj0; rfl)
          intro i _ j _; exact WC.imm rfl
      · repeat' ((first | refine Need.auto ?_ | refine Have.mk (fun _h => ?_)); conv => whnf)
        have : k = n := by omega
        subst this
        have hol : (operationsM l).length ≤ l.length := by rw [operations_len]; exact begunTo_len l _
        have hin := initD_len bs b (settledM l b k)
        generalize hst : settledM l b k = st at *
        by_cases hse : st = []
        · refine Br.yes ?_ ?_
          · rw [hse]; rfl
          conv => whnf
          repeat' ((first | refine Need.auto ?_ | refine Have.mk (fun _h => ?_)); conv => whnf)
          refine CallN.autoQ [] operations_body (operations_spec l hl) ?_; conv => whnf
          conv => whnf
          repeat' ((first | refine Need.auto ?_ | refine Have.mk (fun _h => ?_)); conv => whnf)
          rw [← operations_len]
          have hini : initD bs b st = [bs.getD b.toNat ByteArray.empty] := by unfold initD; rw [if_pos hse]
          rw [hini]
          generalize bs.getD b.toNat ByteArray.empty = v at *
          generalize operationsM l = ops at *
          generalize hii : [v] = ini at *
          have hin1 : (1 : Nat) = ini.length := by rw [← hii]; rfl
          refine Lp.mkK hΓ (ι := Nat) [4, 5, 7, 8, 70, 71] (fun i => [(72, .c (.int .i64 i)), (11, .c (.sl 4 1 (outD l ops b st ini i).length (outD l ops b st ini i).length false))]) (fun i => hYes l b st v ops (outD l ops b st ini i)) (fun i => i ≤ ops.length) (fun i => ops.length - i) 0 (Nat.zero_le _) ?_ ?_
          · refine Mv.mkW ?_ ?_ (Nat.le_of_ble_eq_true rfl) <;> (repeat' (first | exact WA.nil | refine WA.cons rfl ?_ ?_ | exact WB.nil | refine WB.cons ?_ ?_ | exact WT.nil | refine WT.cons ?_ ?_ | exact WH.nil | refine WH.cons ?_ ?_ | exact WR.nil | refine WR.cons rfl ?_ ?_ | refine WO.vr ?_ | exact WO.dead | exact WO.mpS | refine WO.mpA ?_ | refine WO.arrA ?_ | exact WS.u | refine WS.c ?_ | refine WS.a ?_ | refine WS.t ?_ | exact WL.nil | refine WL.cons ?_ ?_ | exact WTL.nil | refine WTL.consC ?_ ?_ | refine WTL.consL ?_ ?_ | exact WC.nils | exact WC.nil rfl | exact WC.nilp | refine WC.fzA | exact WC.ptr rfl (Nat.le_of_ble_eq_true rfl) | exact WC.mpr rfl (Nat.le_of_ble_eq_true rfl) | refine WC.slA | refine WC.intA | refine WC.int ?_ | refine WC.boolA | refine WC.bool ?_ | refine WC.strA | refine WC.str ?_ | exact WC.imm rfl))
            all_goals try (refine WC.fnP ?_; intro j hj; have hj0 : j = 0 := (by have : j < 1 := hj; omega); subst hj0; rfl)
            all_goals first
              | (intro i _ j _; exact WC.imm rfl)
              | (intro i _ j _; exact WC.eq (ev_re _ _ _) (evCell_imm _ _))
              | (intro i _ j _; exact WC.imm (evCell_imm _ _))
              | (intro i hi j hj; exact WC.eq (strsOne hi hj) rfl)
              | (intro i hi; exact absurd hi (by omega))
              | (intro i hi j hj; exact WC.eq ((strsOne hi hj).trans (by rw [show outD l ops b st ini 0 = ini from rfl, ← hii])) rfl)
          · intro i hi
            have hou := outD_len l ops b st ini i
            conv => whnf
            repeat' ((first | refine Need.auto ?_ | refine Have.mk (fun _h => ?_)); conv => whnf)
            (first | refine Br.lt (fun h3 => ?_) (fun h3 => ?_) | refine Br.le (fun h3 => ?_) (fun h3 => ?_) | refine Br.gt (fun h3 => ?_) (fun h3 => ?_) | refine Br.ge (fun h3 => ?_) (fun h3 => ?_) | refine Br.eq (fun h3 => ?_) (fun h3 => ?_) | refine Br.ne (fun h3 => ?_) (fun h3 => ?_) | refine Br.not (fun h3 => ?_) (fun h3 => ?_) | refine Br.mk (fun h3 => ?_) (fun h3 => ?_)) <;> (try simp only [Int.toNat_natCast] at h3) <;> (conv => whnf)
            · repeat' ((first | refine Need.auto ?_ | refine Have.mk (fun _h => ?_)); conv => whnf)
              have e3 : (i : Int).toNat = i := by simp
              rw [e3]
              refine Frc.mk (.a (ops.getD i default).cells) ?_ ?_
              · simp [gets, evG, rowG, Evt.cell, Evt.cells]
              conv => whnf
              repeat' ((first | refine Need.auto ?_ | refine Have.mk (fun _h => ?_)); conv => whnf)
              have hov : outD l ops b st ini (i + 1) = if liveE (ops.getD i default) b = true ∧ covM l st (ops.getD i default).serial = false then outD l ops b st ini i ++ [valueM (ops.getD i default)] else outD l ops b st ini i := rfl
              generalize hei : ops.getD i default = e at *
              generalize hoi : outD l ops b st ini i = oi at *
              refine CallN.reads containsFunc_body (containsFunc_spec l e st) (BwA.cons (BwS.c (Bw.sl rfl rfl (fun _ _ _ _ => Bw.same rfl) (fun q => by cases q))) (BwA.cons (BwS.c (Bw.fn (fun j hj => match j, hj with | 0, _ => Bw.ptr1 rfl rfl | 1, _ => Bw.ptrE rfl))) BwA.nil)) rfl ?_
              conv => whnf
              repeat' ((first | refine Need.auto ?_ | refine Have.mk (fun _h => ?_)); conv => whnf)
              refine CallN.reads changes57_body (changes57_spec e b) (BwA.cons (BwS.a (BwL.same rfl)) (BwA.cons (BwS.c (Bw.ptr1 rfl rfl)) BwA.nil)) rfl ?_
              conv => whnf
              repeat' ((first | refine Need.auto ?_ | refine Have.mk (fun _h => ?_)); conv => whnf)
              refine Need.mk (by intro _h; rw [_h]; rfl) ?_
              conv => whnf
              repeat' ((first | refine Need.auto ?_ | refine Have.mk (fun _h => ?_)); conv => whnf)
              have hd : (bif (bif !changesE e b then true else bif e.ret then e.err != 0 else false) then true else covM l st e.serial) = !(liveE e b && !covM l st e.serial) := by
                unfold liveE
                cases changesE e b <;> cases e.ret <;> cases covM l st e.serial <;> simp [bne]
                rfl
              cases hlv : (liveE e b && !covM l st e.serial) with
              | false =>
                refine Br.yes (hd.trans (by rw [hlv]; rfl)) ?_
                conv => whnf
                repeat' ((first | refine Need.auto ?_ | refine Have.mk (fun _h => ?_)); conv => whnf)
                rw [if_neg (by rintro ⟨c1, c2⟩; rw [c1, c2] at hlv; cases hlv)] at hov
                refine ⟨i + 1, by omega, by omega, ?_⟩
                rw [hov]
                refine Mv.mkW ?_ ?_ (Nat.le_of_ble_eq_true rfl) <;> (repeat' (first | exact WA.nil | refine WA.cons rfl ?_ ?_ | exact WB.nil | refine WB.cons ?_ ?_ | exact WT.nil | refine WT.cons ?_ ?_ | exact WH.nil | refine WH.cons ?_ ?_ | exact WR.nil | refine WR.cons rfl ?_ ?_ | refine WO.vr ?_ | exact WO.dead | exact WO.mpS | refine WO.mpA ?_ | refine WO.arrA ?_ | exact WS.u | refine WS.c ?_ | refine WS.a ?_ | refine WS.t ?_ | exact WL.nil | refine WL.cons ?_ ?_ | exact WTL.nil | refine WTL.consC ?_ ?_ | refine WTL.consL ?_ ?_ | exact WC.nils | exact WC.nil rfl | exact WC.nilp | refine WC.fzA | exact WC.ptr rfl (Nat.le_of_ble_eq_true rfl) | exact WC.mpr rfl (Nat.le_of_ble_eq_true rfl) | refine WC.slA | refine WC.intA | refine WC.int ?_ | refine WC.boolA | refine WC.bool ?_ | refine WC.strA | refine WC.str ?_ | exact WC.imm rfl))
                all_goals try (refine WC.fnP ?_; intro j hj; have hj0 : j = 0 := (by have : j < 1 := hj; omega); subst hj0; rfl)
                all_goals first
                  | (intro i _ j _; exact WC.imm rfl)
                  | (intro i _ j _; exact WC.imm (evCell_imm _ _))
                  | (intro i hi j hj; exact WC.eq (strsSnoc hi hj) rfl)
              | true =>
                refine Br.no (hd.trans (by rw [hlv]; rfl)) ?_
                rw [Bool.and_eq_true, Bool.not_eq_true'] at hlv
                rw [if_pos hlv] at hov
                conv => whnf
                repeat' ((first | refine Need.auto ?_ | refine Have.mk (fun _h => ?_)); conv => whnf)
                (first | refine Br.lt (fun h4 => ?_) (fun h4 => ?_) | refine Br.le (fun h4 => ?_) (fun h4 => ?_) | refine Br.gt (fun h4 => ?_) (fun h4 => ?_) | refine Br.ge (fun h4 => ?_) (fun h4 => ?_) | refine Br.eq (fun h4 => ?_) (fun h4 => ?_) | refine Br.ne (fun h4 => ?_) (fun h4 => ?_) | refine Br.not (fun h4 => ?_) (fun h4 => ?_) | refine Br.mk (fun h4 => ?_) (fun h4 => ?_)) <;> (try simp only [Int.toNat_natCast] at h4) <;> (conv => whnf)
                · repeat' ((first | refine Need.auto ?_ | refine Have.mk (fun _h => ?_)); conv => whnf)
                  refine CallN.pureA zero_body (zero_spec ) ?_
                  conv => whnf
                  repeat' ((first | refine Need.auto ?_ | refine Have.mk (fun _h => ?_)); conv => whnf)
                  have hvm : valueM e = zeroB := by unfold valueM; rw [if_pos h4]
                  rw [hvm] at hov
                  refine ⟨i + 1, by omega, by omega, ?_⟩
                  rw [hov]
                  refine Mv.mkW ?_ ?_ (Nat.le_of_ble_eq_true rfl) <;> (repeat' (first | exact WA.nil | refine WA.cons rfl ?_ ?_ | exact WB.nil | refine WB.cons ?_ ?_ | exact WT.nil | refine WT.cons ?_ ?_ | exact WH.nil | refine WH.cons ?_ ?_ | exact WR.nil | refine WR.cons rfl ?_ ?_ | refine WO.vr ?_ | exact WO.dead | exact WO.mpS | refine WO.mpA ?_ | refine WO.arrA ?_ | exact WS.u | refine WS.c ?_ | refine WS.a ?_ | refine WS.t ?_ | exact WL.nil | refine WL.cons ?_ ?_ | exact WTL.nil | refine WTL.consC ?_ ?_ | refine WTL.consL ?_ ?_ | exact WC.nils | exact WC.nil rfl | exact WC.nilp | refine WC.fzA | exact WC.ptr rfl (Nat.le_of_ble_eq_true rfl) | exact WC.mpr rfl (Nat.le_of_ble_eq_true rfl) | refine WC.slA | refine WC.intA | refine WC.int ?_ | refine WC.boolA | refine WC.bool ?_ | refine WC.strA | refine WC.str ?_ | exact WC.imm rfl))
                  all_goals try (refine WC.fnP ?_; intro j hj; have hj0 : j = 0 := (by have : j < 1 := hj; omega); subst hj0; rfl)
                  all_goals first
                    | (intro i _ j _; exact WC.imm rfl)
                    | (intro i _ j _; exact WC.imm (evCell_imm _ _))
                    | (intro i hi j hj; exact WC.eq (strsSnoc hi hj) rfl)
                · repeat' ((first | refine Need.auto ?_ | refine Have.mk (fun _h => ?_)); conv => whnf)
                  have hvm : valueM e = e.data := by unfold valueM; rw [if_neg h4]
                  rw [hvm] at hov
                  refine ⟨i + 1, by omega, by omega, ?_⟩
                  rw [hov]
                  refine Mv.mkW ?_ ?_ (Nat.le_of_ble_eq_true rfl) <;> (repeat' (first | exact WA.nil | refine WA.cons rfl ?_ ?_ | exact WB.nil | refine WB.cons ?_ ?_ | exact WT.nil | refine WT.cons ?_ ?_ | exact WH.nil | refine WH.cons ?_ ?_ | exact WR.nil | refine WR.cons rfl ?_ ?_ | refine WO.vr ?_ | exact WO.dead | exact WO.mpS | refine WO.mpA ?_ | refine WO.arrA ?_ | exact WS.u | refine WS.c ?_ | refine WS.a ?_ | refine WS.t ?_ | exact WL.nil | refine WL.cons ?_ ?_ | exact WTL.nil | refine WTL.consC ?_ ?_ | refine WTL.consL ?_ ?_ | exact WC.nils | exact WC.nil rfl | exact WC.nilp | refine WC.fzA | exact WC.ptr rfl (Nat.le_of_ble_eq_true rfl) | exact WC.mpr rfl (Nat.le_of_ble_eq_true rfl) | refine WC.slA | refine WC.intA | refine WC.int ?_ | refine WC.boolA | refine WC.bool ?_ | refine WC.strA | refine WC.str ?_ | exact WC.imm rfl))
                  all_goals try (refine WC.fnP ?_; intro j hj; have hj0 : j = 0 := (by have : j < 1 := hj; omega); subst hj0; rfl)
                  all_goals first
                    | (intro i _ j _; exact WC.imm rfl)
                    | (intro i _ j _; exact WC.imm (evCell_imm _ _))
                    | (intro i hi j hj; exact WC.eq (strsSnoc hi hj) rfl)
            · repeat' ((first | refine Need.auto ?_ | refine Have.mk (fun _h => ?_)); conv => whnf)
              have : i = ops.length := by omega
              subst this
              generalize outD l ops b st ini ops.length = oi at *
              refine CallN.autoQ [4] sort_body (sort_spec 9 oi (by omega)) ?_ (h := by (repeat' (first | exact WA.nil | refine WA.cons rfl ?_ ?_ | exact WB.nil | refine WB.cons ?_ ?_ | exact WT.nil | refine WT.cons ?_ ?_ | exact WH.nil | refine WH.cons ?_ ?_ | exact WR.nil | refine WR.cons rfl ?_ ?_ | refine WO.vr ?_ | exact WO.dead | exact WO.mpS | refine WO.mpA ?_ | refine WO.arrA ?_ | exact WS.u | refine WS.c ?_ | refine WS.a ?_ | refine WS.t ?_ | exact WL.nil | refine WL.cons ?_ ?_ | exact WTL.nil | refine WTL.consC ?_ ?_ | refine WTL.consL ?_ ?_ | exact WC.nils | exact WC.nil rfl | exact WC.nilp | refine WC.fzA | exact WC.ptr rfl (Nat.le_of_ble_eq_true rfl) | exact WC.mpr rfl (Nat.le_of_ble_eq_true rfl) | refine WC.slA | refine WC.intA | refine WC.int ?_ | refine WC.boolA | refine WC.bool ?_ | refine WC.strA | refine WC.str ?_ | exact WC.imm rfl)); intro i _ j _; exact WC.imm rfl)
              conv => whnf
              repeat' ((first | refine Need.auto ?_ | refine Have.mk (fun _h => ?_)); conv => whnf)
              rw [← compB_put oi]
              have hsl2 := sortB_len oi
              rw [← hsl2]
              rw [← hsl2] at hou
              generalize sortB oi = so at *
              by_cases hoe : so.length = 0
              · have hoe2 : so = [] := List.length_eq_zero_iff.1 hoe
                subst hoe2
                refine CallN.autoQ [4] compact_body (compact0_spec 9 (strG [])) ?_ (h := by (repeat' (first | exact WA.nil | refine WA.cons rfl ?_ ?_ | exact WB.nil | refine WB.cons ?_ ?_ | exact WT.nil | refine WT.cons ?_ ?_ | exact WH.nil | refine WH.cons ?_ ?_ | exact WR.nil | refine WR.cons rfl ?_ ?_ | refine WO.vr ?_ | exact WO.dead | exact WO.mpS | refine WO.mpA ?_ | refine WO.arrA ?_ | exact WS.u | refine WS.c ?_ | refine WS.a ?_ | refine WS.t ?_ | exact WL.nil | refine WL.cons ?_ ?_ | exact WTL.nil | refine WTL.consC ?_ ?_ | refine WTL.consL ?_ ?_ | exact WC.nils | exact WC.nil rfl | exact WC.nilp | refine WC.fzA | exact WC.ptr rfl (Nat.le_of_ble_eq_true rfl) | exact WC.mpr rfl (Nat.le_of_ble_eq_true rfl) | refine WC.slA | refine WC.intA | refine WC.int ?_ | refine WC.boolA | refine WC.bool ?_ | refine WC.strA | refine WC.str ?_ | exact WC.imm rfl)); intro i _ j _; exact WC.imm rfl)
                conv => whnf
                repeat' ((first | refine Need.auto ?_ | refine Have.mk (fun _h => ?_)); conv => whnf)
                refine RM.fz 4 rfl (Nat.zero_le _) (fun _ _ _ _ => (by first | exact rfl | exact evCell_imm _ _ | exact zoneAt_imm _ _ _ | exact zoneAtT_imm _ _ _)) ?_; refine RM.wkW ?_ ?_ (Nat.zero_le _) <;> (repeat' (first | exact WA.nil | refine WA.cons rfl ?_ ?_ | exact WB.nil | refine WB.cons ?_ ?_ | exact WT.nil | refine WT.cons ?_ ?_ | exact WH.nil | refine WH.cons ?_ ?_ | exact WR.nil | refine WR.cons rfl ?_ ?_ | refine WO.vr ?_ | exact WO.dead | exact WO.mpS | refine WO.mpA ?_ | refine WO.arrA ?_ | exact WS.u | refine WS.c ?_ | refine WS.a ?_ | refine WS.t ?_ | exact WL.nil | refine WL.cons ?_ ?_ | exact WTL.nil | refine WTL.consC ?_ ?_ | refine WTL.consL ?_ ?_ | exact WC.nils | exact WC.nil rfl | exact WC.nilp | refine WC.fzA | exact WC.ptr rfl (Nat.le_of_ble_eq_true rfl) | exact WC.mpr rfl (Nat.le_of_ble_eq_true rfl) | refine WC.slA | refine WC.intA | refine WC.int ?_ | refine WC.boolA | refine WC.bool ?_ | refine WC.strA | refine WC.str ?_ | exact WC.imm rfl))
              · refine CallN.autoQ [4] compact_body (compact_spec 9 so (by omega) (by omega)) ?_ (h := by (repeat' (first | exact WA.nil | refine WA.cons rfl ?_ ?_ | exact WB.nil | refine WB.cons ?_ ?_ | exact WT.nil | refine WT.cons ?_ ?_ | exact WH.nil | refine WH.cons ?_ ?_ | exact WR.nil | refine WR.cons rfl ?_ ?_ | refine WO.vr ?_ | exact WO.dead | exact WO.mpS | refine WO.mpA ?_ | refine WO.arrA ?_ | exact WS.u | refine WS.c ?_ | refine WS.a ?_ | refine WS.t ?_ | exact WL.nil | refine WL.cons ?_ ?_ | exact WTL.nil | refine WTL.consC ?_ ?_ | refine WTL.consL ?_ ?_ | exact WC.nils | exact WC.nil rfl | exact WC.nilp | refine WC.fzA | exact WC.ptr rfl (Nat.le_of_ble_eq_true rfl) | exact WC.mpr rfl (Nat.le_of_ble_eq_true rfl) | refine WC.slA | refine WC.intA | refine WC.int ?_ | refine WC.boolA | refine WC.bool ?_ | refine WC.strA | refine WC.str ?_ | exact WC.imm rfl)); intro i _ j _; exact WC.imm rfl)
                conv => whnf
                repeat' ((first | refine Need.auto ?_ | refine Have.mk (fun _h => ?_)); conv => whnf)
                refine RM.fz 4 rfl (Nat.zero_le _) (fun _ _ _ _ => (by first | exact rfl | exact evCell_imm _ _ | exact zoneAt_imm _ _ _ | exact zoneAtT_imm _ _ _)) ?_; refine RM.wkW ?_ ?_ (Nat.zero_le _) <;> (repeat' (first | exact WA.nil | refine WA.cons rfl ?_ ?_ | exact WB.nil | refine WB.cons ?_ ?_ | exact WT.nil | refine WT.cons ?_ ?_ | exact WH.nil | refine WH.cons ?_ ?_ | exact WR.nil | refine WR.cons rfl ?_ ?_ | refine WO.vr ?_ | exact WO.dead | exact WO.mpS | refine WO.mpA ?_ | refine WO.arrA ?_ | exact WS.u | refine WS.c ?_ | refine WS.a ?_ | refine WS.t ?_ | exact WL.nil | refine WL.cons ?_ ?_ | exact WTL.nil | refine WTL.consC ?_ ?_ | refine WTL.consL ?_ ?_ | exact WC.nils | exact WC.nil rfl | exact WC.nilp | refine WC.fzA | exact WC.ptr rfl (Nat.le_of_ble_eq_true rfl) | exact WC.mpr rfl (Nat.le_of_ble_eq_true rfl) | refine WC.slA | refine WC.intA | refine WC.int ?_ | refine WC.boolA | refine WC.bool ?_ | refine WC.strA | refine WC.str ?_ | exact WC.imm rfl))
                exact WC.fz rfl rfl (fun i hi j hj => leF.of_eq (padG hi)) (fun q => by cases q)
        · refine Br.no ?_ ?_
          · have : st.length ≠ 0 := fun e => hse (List.length_eq_zero_iff.1 e)
            simp; exact hse
          conv => whnf
          repeat' ((first | refine Need.auto ?_ | refine Have.mk (fun _h => ?_)); conv => whnf)
          refine CallN.autoQ [] operations_body (operations_spec l hl) ?_; conv => whnf
          conv => whnf
          repeat' ((first | refine Need.auto ?_ | refine Have.mk (fun _h => ?_)); conv => whnf)
          rw [← operations_len]
          have hini : initD bs b st = [] := by unfold initD; rw [if_neg hse]
          rw [hini]
          generalize bs.getD b.toNat ByteArray.empty = v at *
          generalize operationsM l = ops at *
          generalize hii : ([] : List ByteArray) = ini at *
          refine Lp.reserve 9 1 (strG []) 11 rfl ?_
          have hin1 : (0 : Nat) = ini.length := by rw [← hii]; rfl
          refine Lp.mkK hΓ (ι := Nat) [4, 5, 7, 8, 70, 71] (fun i => [(72, .c (.int .i64 i)), (11, .c (.sl 4 1 (outD l ops b st ini i).length (outD l ops b st ini i).length false))]) (fun i => hNo l b st v ops (outD l ops b st ini i)) (fun i => i ≤ ops.length) (fun i => ops.length - i) 0 (Nat.zero_le _) ?_ ?_
          · refine Mv.mkW ?_ ?_ (Nat.le_of_ble_eq_true rfl) <;> (repeat' (first | exact WA.nil | refine WA.cons rfl ?_ ?_ | exact WB.nil | refine WB.cons ?_ ?_ | exact WT.nil | refine WT.cons ?_ ?_ | exact WH.nil | refine WH.cons ?_ ?_ | exact WR.nil | refine WR.cons rfl ?_ ?_ | refine WO.vr ?_ | exact WO.dead | exact WO.mpS | refine WO.mpA ?_ | refine WO.arrA ?_ | exact WS.u | refine WS.c ?_ | refine WS.a ?_ | refine WS.t ?_ | exact WL.nil | refine WL.cons ?_ ?_ | exact WTL.nil | refine WTL.consC ?_ ?_ | refine WTL.consL ?_ ?_ | exact WC.nils | exact WC.nil rfl | exact WC.nilp | refine WC.fzA | exact WC.ptr rfl (Nat.le_of_ble_eq_true rfl) | exact WC.mpr rfl (Nat.le_of_ble_eq_true rfl) | refine WC.slA | refine WC.intA | refine WC.int ?_ | refine WC.boolA | refine WC.bool ?_ | refine WC.strA | refine WC.str ?_ | exact WC.imm rfl))
            all_goals try (refine WC.fnP ?_; intro j hj; have hj0 : j = 0 := (by have : j < 1 := hj; omega); subst hj0; rfl)
            all_goals first
              | (intro i _ j _; exact WC.imm rfl)
              | (intro i _ j _; exact WC.eq (ev_re _ _ _) (evCell_imm _ _))
              | (intro i _ j _; exact WC.imm (evCell_imm _ _))
              | (intro i hi j hj; exact WC.eq (strsOne hi hj) rfl)
              | (intro i hi; exact absurd hi (by omega))
              | (intro i hi j hj; exact WC.eq ((strsOne hi hj).trans (by rw [show outD l ops b st ini 0 = ini from rfl, ← hii])) rfl)
          · intro i hi
            have hou := outD_len l ops b st ini i
            conv => whnf
            repeat' ((first | refine Need.auto ?_ | refine Have.mk (fun _h => ?_)); conv => whnf)
            (first | refine Br.lt (fun h3 => ?_) (fun h3 => ?_) | refine Br.le (fun h3 => ?_) (fun h3 => ?_) | refine Br.gt (fun h3 => ?_) (fun h3 => ?_) | refine Br.ge (fun h3 => ?_) (fun h3 => ?_) | refine Br.eq (fun h3 => ?_) (fun h3 => ?_) | refine Br.ne (fun h3 => ?_) (fun h3 => ?_) | refine Br.not (fun h3 => ?_) (fun h3 => ?_) | refine Br.mk (fun h3 => ?_) (fun h3 => ?_)) <;> (try simp only [Int.toNat_natCast] at h3) <;> (conv => whnf)
            · repeat' ((first | refine Need.auto ?_ | refine Have.mk (fun _h => ?_)); conv => whnf)
              have e3 : (i : Int).toNat = i := by simp
              rw [e3]
              refine Frc.mk (.a (ops.getD i default).cells) ?_ ?_
              · simp [gets, evG, rowG, Evt.cell, Evt.cells]
              conv => whnf
              repeat' ((first | refine Need.auto ?_ | refine Have.mk (fun _h => ?_)); conv => whnf)
              have hov : outD l ops b st ini (i + 1) = if liveE (ops.getD i default) b = true ∧ covM l st (ops.getD i default).serial = false then outD l ops b st ini i ++ [valueM (ops.getD i default)] else outD l ops b st ini i := rfl
              generalize hei : ops.getD i default = e at *
              generalize hoi : outD l ops b st ini i = oi at *
              refine CallN.reads containsFunc_body (containsFunc_spec l e st) (BwA.cons (BwS.c (Bw.sl rfl rfl (fun _ _ _ _ => Bw.same rfl) (fun q => by cases q))) (BwA.cons (BwS.c (Bw.fn (fun j hj => match j, hj with | 0, _ => Bw.ptr1 rfl rfl | 1, _ => Bw.ptrE rfl))) BwA.nil)) rfl ?_
              conv => whnf
              repeat' ((first | refine Need.auto ?_ | refine Have.mk (fun _h => ?_)); conv => whnf)
              refine CallN.reads changes57_body (changes57_spec e b) (BwA.cons (BwS.a (BwL.same rfl)) (BwA.cons (BwS.c (Bw.ptr1 rfl rfl)) BwA.nil)) rfl ?_
              conv => whnf
              repeat' ((first | refine Need.auto ?_ | refine Have.mk (fun _h => ?_)); conv => whnf)
              refine Need.mk (by intro _h; rw [_h]; rfl) ?_
              conv => whnf
              repeat' ((first | refine Need.auto ?_ | refine Have.mk (fun _h => ?_)); conv => whnf)
              have hd : (bif (bif !changesE e b then true else bif e.ret then e.err != 0 else false) then true else covM l st e.serial) = !(liveE e b && !covM l st e.serial) := by
                unfold liveE
                cases changesE e b <;> cases e.ret <;> cases covM l st e.serial <;> simp [bne]
                rfl
              cases hlv : (liveE e b && !covM l st e.serial) with
              | false =>
                refine Br.yes (hd.trans (by rw [hlv]; rfl)) ?_
                conv => whnf
                repeat' ((first | refine Need.auto ?_ | refine Have.mk (fun _h => ?_)); conv => whnf)
                rw [if_neg (by rintro ⟨c1, c2⟩; rw [c1, c2] at hlv; cases hlv)] at hov
                refine ⟨i + 1, by omega, by omega, ?_⟩
                rw [hov]
                refine Mv.mkW ?_ ?_ (Nat.le_of_ble_eq_true rfl) <;> (repeat' (first | exact WA.nil | refine WA.cons rfl ?_ ?_ | exact WB.nil | refine WB.cons ?_ ?_ | exact WT.nil | refine WT.cons ?_ ?_ | exact WH.nil | refine WH.cons ?_ ?_ | exact WR.nil | refine WR.cons rfl ?_ ?_ | refine WO.vr ?_ | exact WO.dead | exact WO.mpS | refine WO.mpA ?_ | refine WO.arrA ?_ | exact WS.u | refine WS.c ?_ | refine WS.a ?_ | refine WS.t ?_ | exact WL.nil | refine WL.cons ?_ ?_ | exact WTL.nil | refine WTL.consC ?_ ?_ | refine WTL.consL ?_ ?_ | exact WC.nils | exact WC.nil rfl | exact WC.nilp | refine WC.fzA | exact WC.ptr rfl (Nat.le_of_ble_eq_true rfl) | exact WC.mpr rfl (Nat.le_of_ble_eq_true rfl) | refine WC.slA | refine WC.intA | refine WC.int ?_ | refine WC.boolA | refine WC.bool ?_ | refine WC.strA | refine WC.str ?_ | exact WC.imm rfl))
                all_goals try (refine WC.fnP ?_; intro j hj; have hj0 : j = 0 := (by have : j < 1 := hj; omega); subst hj0; rfl)
                all_goals first
                  | (intro i _ j _; exact WC.imm rfl)
                  | (intro i _ j _; exact WC.imm (evCell_imm _ _))
                  | (intro i hi j hj; exact WC.eq (strsSnoc hi hj) rfl)
              | true =>
                refine Br.no (hd.trans (by rw [hlv]; rfl)) ?_
                rw [Bool.and_eq_true, Bool.not_eq_true'] at hlv
                rw [if_pos hlv] at hov
                conv => whnf
                repeat' ((first | refine Need.auto ?_ | refine Have.mk (fun _h => ?_)); conv => whnf)
                (first | refine Br.lt (fun h4 => ?_) (fun h4 => ?_) | refine Br.le (fun h4 => ?_) (fun h4 => ?_) | refine Br.gt (fun h4 => ?_) (fun h4 => ?_) | refine Br.ge (fun h4 => ?_) (fun h4 => ?_) | refine Br.eq (fun h4 => ?_) (fun h4 => ?_) | refine Br.ne (fun h4 => ?_) (fun h4 => ?_) | refine Br.not (fun h4 => ?_) (fun h4 => ?_) | refine Br.mk (fun h4 => ?_) (fun h4 => ?_)) <;> (try simp only [Int.toNat_natCast] at h4) <;> (conv => whnf)
                · repeat' ((first | refine Need.auto ?_ | refine Have.mk (fun _h => ?_)); conv => whnf)
                  refine CallN.pureA zero_body (zero_spec ) ?_
                  conv => whnf
                  repeat' ((first | refine Need.auto ?_ | refine Have.mk (fun _h => ?_)); conv => whnf)
                  have hvm : valueM e = zeroB := by unfold valueM; rw [if_pos h4]
                  rw [hvm] at hov
                  refine ⟨i + 1, by omega, by omega, ?_⟩
                  rw [hov]
                  refine Mv.mkW ?_ ?_ (Nat.le_of_ble_eq_true rfl) <;> (repeat' (first | exact WA.nil | refine WA.cons rfl ?_ ?_ | exact WB.nil | refine WB.cons ?_ ?_ | exact WT.nil | refine WT.cons ?_ ?_ | exact WH.nil | refine WH.cons ?_ ?_ | exact WR.nil | refine WR.cons rfl ?_ ?_ | refine WO.vr ?_ | exact WO.dead | exact WO.mpS | refine WO.mpA ?_ | refine WO.arrA ?_ | exact WS.u | refine WS.c ?_ | refine WS.a ?_ | refine WS.t ?_ | exact WL.nil | refine WL.cons ?_ ?_ | exact WTL.nil | refine WTL.consC ?_ ?_ | refine WTL.consL ?_ ?_ | exact WC.nils | exact WC.nil rfl | exact WC.nilp | refine WC.fzA | exact WC.ptr rfl (Nat.le_of_ble_eq_true rfl) | exact WC.mpr rfl (Nat.le_of_ble_eq_true rfl) | refine WC.slA | refine WC.intA | refine WC.int ?_ | refine WC.boolA | refine WC.bool ?_ | refine WC.strA | refine WC.str ?_ | exact WC.imm rfl))
                  all_goals try (refine WC.fnP ?_; intro j hj; have hj0 : j = 0 := (by have : j < 1 := hj; omega); subst hj0; rfl)
                  all_goals first
                    | (intro i _ j _; exact WC.imm rfl)
                    | (intro i _ j _; exact WC.imm (evCell_imm _ _))
                    | (intro i hi j hj; exact WC.eq (strsSnoc hi hj) rfl)
                · repeat' ((first | refine Need.auto ?_ | refine Have.mk (fun _h => ?_)); conv => whnf)
                  have hvm : valueM e = e.data := by unfold valueM; rw [if_neg h4]
                  rw [hvm] at hov
                  refine ⟨i + 1, by omega, by omega, ?_⟩
                  rw [hov]
                  refine Mv.mkW ?_ ?_ (Nat.le_of_ble_eq_true rfl) <;> (repeat' (first | exact WA.nil | refine WA.cons rfl ?_ ?_ | exact WB.nil | refine WB.cons ?_ ?_ | exact WT.nil | refine WT.cons ?_ ?_ | exact WH.nil | refine WH.cons ?_ ?_ | exact WR.nil | refine WR.cons rfl ?_ ?_ | refine WO.vr ?_ | exact WO.dead | exact WO.mpS | refine WO.mpA ?_ | refine WO.arrA ?_ | exact WS.u | refine WS.c ?_ | refine WS.a ?_ | refine WS.t ?_ | exact WL.nil | refine WL.cons ?_ ?_ | exact WTL.nil | refine WTL.consC ?_ ?_ | refine WTL.consL ?_ ?_ | exact WC.nils | exact WC.nil rfl | exact WC.nilp | refine WC.fzA | exact WC.ptr rfl (Nat.le_of_ble_eq_true rfl) | exact WC.mpr rfl (Nat.le_of_ble_eq_true rfl) | refine WC.slA | refine WC.intA | refine WC.int ?_ | refine WC.boolA | refine WC.bool ?_ | refine WC.strA | refine WC.str ?_ | exact WC.imm rfl))
                  all_goals try (refine WC.fnP ?_; intro j hj; have hj0 : j = 0 := (by have : j < 1 := hj; omega); subst hj0; rfl)
                  all_goals first
                    | (intro i _ j _; exact WC.imm rfl)
                    | (intro i _ j _; exact WC.imm (evCell_imm _ _))
                    | (intro i hi j hj; exact WC.eq (strsSnoc hi hj) rfl)
            · repeat' ((first | refine Need.auto ?_ | refine Have.mk (fun _h => ?_)); conv => whnf)
              have : i = ops.length := by omega
              subst this
              generalize outD l ops b st ini ops.length = oi at *
              refine CallN.autoQ [4] sort_body (sort_spec 9 oi (by omega)) ?_ (h := by (repeat' (first | exact WA.nil | refine WA.cons rfl ?_ ?_ | exact WB.nil | refine WB.cons ?_ ?_ | exact WT.nil | refine WT.cons ?_ ?_ | exact WH.nil | refine WH.cons ?_ ?_ | exact WR.nil | refine WR.cons rfl ?_ ?_ | refine WO.vr ?_ | exact WO.dead | exact WO.mpS | refine WO.mpA ?_ | refine WO.arrA ?_ | exact WS.u | refine WS.c ?_ | refine WS.a ?_ | refine WS.t ?_ | exact WL.nil | refine WL.cons ?_ ?_ | exact WTL.nil | refine WTL.consC ?_ ?_ | refine WTL.consL ?_ ?_ | exact WC.nils | exact WC.nil rfl | exact WC.nilp | refine WC.fzA | exact WC.ptr rfl (Nat.le_of_ble_eq_true rfl) | exact WC.mpr rfl (Nat.le_of_ble_eq_true rfl) | refine WC.slA | refine WC.intA | refine WC.int ?_ | refine WC.boolA | refine WC.bool ?_ | refine WC.strA | refine WC.str ?_ | exact WC.imm rfl)); intro i _ j _; exact WC.imm rfl)
              conv => whnf
              repeat' ((first | refine Need.auto ?_ | refine Have.mk (fun _h => ?_)); conv => whnf)
              rw [← compB_put oi]
              have hsl2 := sortB_len oi
              rw [← hsl2]
              rw [← hsl2] at hou
              generalize sortB oi = so at *
              by_cases hoe : so.length = 0
              · have hoe2 : so = [] := List.length_eq_zero_iff.1 hoe
                subst hoe2
                refine CallN.autoQ [4] compact_body (compact0_spec 9 (strG [])) ?_ (h := by (repeat' (first | exact WA.nil | refine WA.cons rfl ?_ ?_ | exact WB.nil | refine WB.cons ?_ ?_ | exact WT.nil | refine WT.cons ?_ ?_ | exact WH.nil | refine WH.cons ?_ ?_ | exact WR.nil | refine WR.cons rfl ?_ ?_ | refine WO.vr ?_ | exact WO.dead | exact WO.mpS | refine WO.mpA ?_ | refine WO.arrA ?_ | exact WS.u | refine WS.c ?_ | refine WS.a ?_ | refine WS.t ?_ | exact WL.nil | refine WL.cons ?_ ?_ | exact WTL.nil | refine WTL.consC ?_ ?_ | refine WTL.consL ?_ ?_ | exact WC.nils | exact WC.nil rfl | exact WC.nilp | refine WC.fzA | exact WC.ptr rfl (Nat.le_of_ble_eq_true rfl) | exact WC.mpr rfl (Nat.le_of_ble_eq_true rfl) | refine WC.slA | refine WC.intA | refine WC.int ?_ | refine WC.boolA | refine WC.bool ?_ | refine WC.strA | refine WC.str ?_ | exact WC.imm rfl)); intro i _ j _; exact WC.imm rfl)
                conv => whnf
                repeat' ((first | refine Need.auto ?_ | refine Have.mk (fun _h => ?_)); conv => whnf)
                refine RM.fz 4 rfl (Nat.zero_le _) (fun _ _ _ _ => (by first | exact rfl | exact evCell_imm _ _ | exact zoneAt_imm _ _ _ | exact zoneAtT_imm _ _ _)) ?_; refine RM.wkW ?_ ?_ (Nat.zero_le _) <;> (repeat' (first | exact WA.nil | refine WA.cons rfl ?_ ?_ | exact WB.nil | refine WB.cons ?_ ?_ | exact WT.nil | refine WT.cons ?_ ?_ | exact WH.nil | refine WH.cons ?_ ?_ | exact WR.nil | refine WR.cons rfl ?_ ?_ | refine WO.vr ?_ | exact WO.dead | exact WO.mpS | refine WO.mpA ?_ | refine WO.arrA ?_ | exact WS.u | refine WS.c ?_ | refine WS.a ?_ | refine WS.t ?_ | exact WL.nil | refine WL.cons ?_ ?_ | exact WTL.nil | refine WTL.consC ?_ ?_ | refine WTL.consL ?_ ?_ | exact WC.nils | exact WC.nil rfl | exact WC.nilp | refine WC.fzA | exact WC.ptr rfl (Nat.le_of_ble_eq_true rfl) | exact WC.mpr rfl (Nat.le_of_ble_eq_true rfl) | refine WC.slA | refine WC.intA | refine WC.int ?_ | refine WC.boolA | refine WC.bool ?_ | refine WC.strA | refine WC.str ?_ | exact WC.imm rfl))
              · refine CallN.autoQ [4] compact_body (compact_spec 9 so (by omega) (by omega)) ?_ (h := by (repeat' (first | exact WA.nil | refine WA.cons rfl ?_ ?_ | exact WB.nil | refine WB.cons ?_ ?_ | exact WT.nil | refine WT.cons ?_ ?_ | exact WH.nil | refine WH.cons ?_ ?_ | exact WR.nil | refine WR.cons rfl ?_ ?_ | refine WO.vr ?_ | exact WO.dead | exact WO.mpS | refine WO.mpA ?_ | refine WO.arrA ?_ | exact WS.u | refine WS.c ?_ | refine WS.a ?_ | refine WS.t ?_ | exact WL.nil | refine WL.cons ?_ ?_ | exact WTL.nil | refine WTL.consC ?_ ?_ | refine WTL.consL ?_ ?_ | exact WC.nils | exact WC.nil rfl | exact WC.nilp | refine WC.fzA | exact WC.ptr rfl (Nat.le_of_ble_eq_true rfl) | exact WC.mpr rfl (Nat.le_of_ble_eq_true rfl) | refine WC.slA | refine WC.intA | refine WC.int ?_ | refine WC.boolA | refine WC.bool ?_ | refine WC.strA | refine WC.str ?_ | exact WC.imm rfl)); intro i _ j _; exact WC.imm rfl)
                conv => whnf
                repeat' ((first | refine Need.auto ?_ | refine Have.mk (fun _h => ?_)); conv => whnf)
                refine RM.fz 4 rfl (Nat.zero_le _) (fun _ _ _ _ => (by first | exact rfl | exact evCell_imm _ _ | exact zoneAt_imm _ _ _ | exact zoneAtT_imm _ _ _)) ?_; refine RM.wkW ?_ ?_ (Nat.zero_le _) <;> (repeat' (first | exact WA.nil | refine WA.cons rfl ?_ ?_ | exact WB.nil | refine WB.cons ?_ ?_ | exact WT.nil | refine WT.cons ?_ ?_ | exact WH.nil | refine WH.cons ?_ ?_ | exact WR.nil | refine WR.cons rfl ?_ ?_ | refine WO.vr ?_ | exact WO.dead | exact WO.mpS | refine WO.mpA ?_ | refine WO.arrA ?_ | exact WS.u | refine WS.c ?_ | refine WS.a ?_ | refine WS.t ?_ | exact WL.nil | refine WL.cons ?_ ?_ | exact WTL.nil | refine WTL.consC ?_ ?_ | refine WTL.consL ?_ ?_ | exact WC.nils | exact WC.nil rfl | exact WC.nilp | refine WC.fzA | exact WC.ptr rfl (Nat.le_of_ble_eq_true rfl) | exact WC.mpr rfl (Nat.le_of_ble_eq_true rfl) | refine WC.slA | refine WC.intA | refine WC.int ?_ | refine WC.boolA | refine WC.bool ?_ | refine WC.strA | refine WC.str ?_ | exact WC.imm rfl))
                exact WC.fz rfl rfl (fun i hi j hj => leF.of_eq (padG hi)) (fun q => by cases q)
theorem allowed_body : HasBody Try.prog 27 := ⟨⟨Try.f27, Try.func27, rfl, by kernel_rfl⟩⟩
end Go.Proofs
end

section
open Go Go.Am
namespace Go.Proofs
abbrev ev (l : List Evt) (i : Nat) : Evt := l.getD i default
theorem begun_to {l : List Evt} (h : Right l) : ∀ k, k ≤ l.length → begunTo l k = (l.take k).filter fun e => !e.ret
  | 0, _ => by simp [begunTo]
  | k + 1, hk => by
    rw [take_filter_succ (by omega), ← begun_to h k (by omega)]
    cases hr : (l.getD k default).ret with
    | true => rw [begunTo_no (by omega) (.inl hr), if_neg (by simp)]
    | false =>
      rw [begunTo_yes (by omega) hr (placesM_not.2 fun i hi hir => h.inv i k hi (by omega) hir hr), if_pos (by simp)]
theorem begun_eq {l : List Evt} (h : Right l) : begunM l = l.filter fun e => !e.ret := by
  unfold begunM
  rw [begun_to h _ (Nat.le_refl _), List.take_length]
theorem ev_mem {l : List Evt} {i : Nat} (h : i < l.length) : ev l i ∈ l := by
  have : l.getD i default = l[i] := by simp [List.getD, h]
  unfold ev
  rw [this]
  exact List.getElem_mem h
theorem mem_ev {l : List Evt} {e : Evt} (h : e ∈ l) : ∃ i, i < l.length ∧ ev l i = e := by
  obtain ⟨i, hi, rfl⟩ := List.getElem_of_mem h
  exact ⟨i, hi, by simp [ev, List.getD, hi]⟩
theorem mem_ops {l : List Evt} (h : Right l) {op : Evt} : op ∈ operationsM l ↔ ∃ m, m < l.length ∧ (ev l m).ret = false ∧ op = opOf l (ev l m) := by
  unfold operationsM
  rw [List.mem_map, begun_eq h]
  constructor
  · rintro ⟨e, he, rfl⟩
    obtain ⟨h1, h2⟩ := List.mem_filter.1 he
    obtain ⟨m, hm, rfl⟩ := mem_ev h1
    exact ⟨m, hm, by simpa using h2, rfl⟩
  · rintro ⟨m, hm, hr, rfl⟩
    exact ⟨ev l m, List.mem_filter.2 ⟨ev_mem hm, by show (!(ev l m).ret) = true; rw [hr]; rfl⟩, rfl⟩
theorem ret_place {l : List Evt} (h : Right l) {i : Nat} (hi : i < l.length) (hr : (ev l i).ret = true) : (placesF l true).has (ev l i).serial = true ∧ (placesF l true).get (ev l i).serial = i := by
  have h1 : (placesM l true l.length).has (ev l i).serial = true := (placesM_has l true _ _).2 ⟨i, hi, hr, rfl⟩
  obtain ⟨j, j1, j2, j3, j4, -⟩ := placesM_get l true _ _ h1
  refine ⟨h1, j2.trans ?_⟩
  rcases Nat.lt_trichotomy i j with c | c | c
  · exact absurd j4.symm (h.rets i j c j1 hr j3)
  · rw [c]
  · exact absurd j4 (h.rets j i c hi j3 hr)
theorem inv_place {l : List Evt} (h : Right l) {i : Nat} (hi : i < l.length) (hr : (ev l i).ret = false) : (placesF l false).has (ev l i).serial = true ∧ (placesF l false).get (ev l i).serial = i := by
  have h1 : (placesM l false l.length).has (ev l i).serial = true := (placesM_has l false _ _).2 ⟨i, hi, hr, rfl⟩
  obtain ⟨j, j1, j2, j3, j4, -⟩ := placesM_get l false _ _ h1
  refine ⟨h1, j2.trans ?_⟩
  rcases Nat.lt_trichotomy i j with c | c | c
  · exact absurd j4.symm (h.inv i j c j1 hr j3)
  · rw [c]
  · exact absurd j4 (h.inv j i c hi j3 hr)
theorem opOf_ret {l : List Evt} (h : Right l) {e : Evt} {i : Nat} (hi : i < l.length) (hr : (ev l i).ret = true) (hs : (ev l i).serial = e.serial) : opOf l e = { e with ret := true, err := (ev l i).err, rdata := (ev l i).rdata } := by
  obtain ⟨h1, h2⟩ := ret_place h hi hr
  unfold opOf
  rw [← hs, if_pos h1, h2, Int.toNat_natCast]
theorem opOf_open {l : List Evt} {e : Evt} (h : ∀ i, i < l.length → (ev l i).ret = true → (ev l i).serial ≠ e.serial) : opOf l e = e := by
  unfold opOf
  rw [if_neg]
  unfold placesF
  rw [placesM_has]
  rintro ⟨i, h1, h2, h3⟩
  exact h i h1 h2 h3
theorem opOf_keep (l : List Evt) (e : Evt) : (opOf l e).serial = e.serial ∧ (opOf l e).kind = e.kind ∧ (opOf l e).block = e.block ∧ (opOf l e).data = e.data := by
  unfold opOf; split <;> exact ⟨rfl, rfl, rfl, rfl⟩
theorem before_iff {l : List Evt} (h : Right l) {a b : Int} : beforeM l a b = true ↔ ∃ i j, i < l.length ∧ j < l.length ∧ i < j ∧ (ev l i).ret = true ∧ (ev l i).serial = a ∧ (ev l j).ret = false ∧ (ev l j).serial = b := by
  unfold beforeM
  simp only [Bool.and_eq_true, decide_eq_true_eq]
  constructor
  · rintro ⟨⟨h1, h2⟩, h3⟩
    obtain ⟨i, i1, i2, i3, i4, -⟩ := placesM_get l true _ _ h1
    obtain ⟨j, j1, j2, j3, j4, -⟩ := placesM_get l false _ _ h2
    refine ⟨i, j, i1, j1, ?_, i3, i4, j3, j4⟩
    unfold placesF at h3
    rw [i2, j2] at h3
    omega
  · rintro ⟨i, j, hi, hj, hij, h1, rfl, h3, rfl⟩
    obtain ⟨i1, i2⟩ := ret_place h hi h1
    obtain ⟨j1, j2⟩ := inv_place h hj h3
    rw [i1, i2, j1, j2]
    exact ⟨⟨rfl, rfl⟩, by omega⟩
theorem before_self {l : List Evt} (h : Right l) (s : Int) : beforeM l s s = false := by
  rw [← Bool.not_eq_true, before_iff h]
  rintro ⟨i, j, hi, hj, hij, h1, h2, h3, h4⟩
  obtain ⟨m, m1, m2, m3, -⟩ := h.open_ i hi h1
  exact absurd (m3.trans (h2.trans h4.symm)) (h.inv m j (by omega) hj m2 h3)
/-- The invocation of an answer. -/
theorem Right.inv_of {l : List Evt} (h : Right l) {i : Nat} (hi : i < l.length) (hr : (ev l i).ret = true) : ∃ m, m < i ∧ (ev l m).ret = false ∧ (ev l m).serial = (ev l i).serial ∧ (ev l m).kind = (ev l i).kind ∧ (ev l m).block = (ev l i).block ∧ (ev l m).data = (ev l i).data := by
  obtain ⟨m, m1, m2, m3, -, m5, m6, m7, -⟩ := h.open_ i hi hr
  exact ⟨m, m1, m2, m3, m5, m6, m7⟩
theorem Right.same {l : List Evt} (h : Right l) {m m' : Nat} (hm : m < l.length) (hm' : m' < l.length) (h1 : (ev l m).ret = false) (h2 : (ev l m').ret = false) (hs : (ev l m).serial = (ev l m').serial) : m = m' := by
  rcases Nat.lt_trichotomy m m' with c | c | c
  · exact absurd hs (h.inv m m' c hm' h1 h2)
  · exact c
  · exact absurd hs.symm (h.inv m' m c hm h2 h1)
/-- An answer and the invocation of its number: the same command. -/
theorem Right.cmd {l : List Evt} (h : Right l) {i m : Nat} (hi : i < l.length) (hm : m < l.length) (hr : (ev l i).ret = true) (h1 : (ev l m).ret = false) (hs : (ev l m).serial = (ev l i).serial) : m < i ∧ (ev l m).kind = (ev l i).kind ∧ (ev l m).block = (ev l i).block ∧ (ev l m).data = (ev l i).data := by
  obtain ⟨m', m1, m2, m3, m4⟩ := h.inv_of hi hr
  have : m = m' := h.same hm (by omega) h1 m2 (hs.trans m3.symm)
  subst this
  exact ⟨m1, m4⟩

/-! ### the point -/
def PtQ (l : List Evt) (m : Nat) : Prop := m < l.length ∧ (ev l m).ret = false ∧ ∃ i, m < i ∧ i < l.length ∧ isFlush (ev l i) = true ∧ (ev l i).serial = (ev l m).serial
theorem isFlush_iff {e : Evt} : isFlush e = true ↔ e.kind = 4 ∧ e.ret = true ∧ e.err = 0 := by
  unfold isFlush
  simp only [Bool.and_eq_true, decide_eq_true_eq, and_assoc]
theorem flushed_iff {l : List Evt} (h : Right l) {m : Nat} (hm : m < l.length) (hr : (ev l m).ret = false) : flushedIn (operationsM l) (ev l m).serial = true ↔ ∃ i, m < i ∧ i < l.length ∧ isFlush (ev l i) = true ∧ (ev l i).serial = (ev l m).serial := by
  unfold flushedIn
  rw [List.any_eq_true]
  constructor
  · rintro ⟨op, ho, hc⟩
    rw [Bool.and_eq_true, decide_eq_true_eq, isFlush_iff] at hc
    obtain ⟨c1, c2, c3, c4⟩ := hc
    obtain ⟨m', k1, k2, rfl⟩ := (mem_ops h).1 ho
    rw [(opOf_keep l _).1] at c1
    have : m' = m := h.same k1 hm k2 hr c1
    subst this
    by_cases hx : ∃ i, i < l.length ∧ (ev l i).ret = true ∧ (ev l i).serial = (ev l m').serial
    · obtain ⟨i, i1, i2, i3⟩ := hx
      rw [opOf_ret h i1 i2 i3] at c2 c4
      obtain ⟨q1, q2, -⟩ := h.cmd i1 hm i2 hr i3.symm
      exact ⟨i, q1, i1, isFlush_iff.2 ⟨q2 ▸ c2, i2, c4⟩, i3⟩
    · have := opOf_open (l := l) (e := ev l m') fun i i1 i2 i3 => hx ⟨i, i1, i2, i3⟩
      rw [this, hr] at c3
      cases c3
  · rintro ⟨i, i1, i2, i3, i4⟩
    obtain ⟨c1, c2, c3⟩ := isFlush_iff.1 i3
    obtain ⟨q1, q2, -⟩ := h.cmd i2 hm c2 hr i4.symm
    refine ⟨opOf l (ev l m), (mem_ops h).2 ⟨m, hm, hr, rfl⟩, ?_⟩
    rw [Bool.and_eq_true, decide_eq_true_eq, isFlush_iff, opOf_ret h i2 c2 i4]
    exact ⟨rfl, q2.trans c1, rfl, c3⟩
def IsMax (Q : Nat → Prop) (n : Nat) : Prop := (n = 0 ∨ Q n) ∧ ∀ m, Q m → m ≤ n
theorem IsMax.uniq {Q : Nat → Prop} {n n' : Nat} (h : IsMax Q n) (h' : IsMax Q n') : n = n' := by
  have h1 : n ≤ n' := by
    rcases h.1 with c | c
    · omega
    · exact h'.2 n c
  have h2 : n' ≤ n := by
    rcases h'.1 with c | c
    · omega
    · exact h.2 n' c
  omega
theorem pointTo_max {l : List Evt} (h : Right l) : ∀ k, k ≤ l.length → IsMax (fun m => m < k ∧ PtQ l m) (pointTo l k)
  | 0, _ => ⟨.inl rfl, fun m hm => by omega⟩
  | k + 1, hk => by
    obtain ⟨h1, h2⟩ := pointTo_max h k (by omega)
    simp only [pointTo]
    split
    · rename_i hc
      refine ⟨.inr ⟨by omega, by omega, hc.1, (flushed_iff h (by omega) hc.1).1 hc.2⟩, fun m hm => by omega⟩
    · rename_i hc
      refine ⟨?_, fun m hm => ?_⟩
      · rcases h1 with c | c
        · exact .inl c
        · exact .inr ⟨by omega, c.2⟩
      · by_cases c : m = k
        · subst c
          exact absurd ⟨hm.2.2.1, (flushed_iff h (by omega) hm.2.2.1).2 hm.2.2.2⟩ hc
        · exact h2 m ⟨by omega, hm.2⟩
theorem innerP_max (l : List Evt) (s : Int) (a : Nat) : ∀ k, (innerP l s a k = a ∨ ∃ m, m < k ∧ (ev l m).ret = false ∧ (ev l m).serial = s ∧ innerP l s a k = m) ∧ a ≤ innerP l s a k ∧ ∀ m, m < k → (ev l m).ret = false → (ev l m).serial = s → m ≤ innerP l s a k
  | 0 => ⟨.inl rfl, Nat.le_refl _, fun m hm => by omega⟩
  | k + 1 => by
    obtain ⟨h1, h2, h3⟩ := innerP_max l s a k
    simp only [innerP]
    split
    · rename_i hc
      refine ⟨?_, by omega, fun m hm m1 m2 => ?_⟩
      · rcases Nat.le_total (innerP l s a k) k with c | c
        · rw [Nat.max_eq_right c]
          exact .inr ⟨k, by omega, hc.1, hc.2, rfl⟩
        · rw [Nat.max_eq_left c]
          rcases h1 with q | ⟨m, q1, q2, q3, q4⟩
          · exact .inl q
          · exact .inr ⟨m, by omega, q2, q3, q4⟩
      · by_cases c : m = k
        · omega
        · have := h3 m (by omega) m1 m2; omega
    · rename_i hc
      refine ⟨?_, h2, fun m hm m1 m2 => ?_⟩
      · rcases h1 with q | ⟨m, q1, q2, q3, q4⟩
        · exact .inl q
        · exact .inr ⟨m, by omega, q2, q3, q4⟩
      · by_cases c : m = k
        · subst c; exact absurd ⟨m1, m2⟩ hc
        · exact h3 m (by omega) m1 m2
theorem outerP_max (l : List Evt) : ∀ k, k ≤ l.length → IsMax (fun m => (ev l m).ret = false ∧ ∃ i, m < i ∧ i < k ∧ isFlush (ev l i) = true ∧ (ev l i).serial = (ev l m).serial) (outerP l k)
  | 0, _ => ⟨.inl rfl, fun m ⟨_, i, hm⟩ => by omega⟩
  | k + 1, hk => by
    obtain ⟨h1, h2⟩ := outerP_max l k (by omega)
    simp only [outerP]
    split
    · rename_i hc
      obtain ⟨q1, q2, q3⟩ := innerP_max l (ev l k).serial (outerP l k) k
      refine ⟨?_, fun m ⟨m1, i, i1, i2, i3, i4⟩ => ?_⟩
      · rcases q1 with c | ⟨m, m1, m2, m3, m4⟩
        · rw [c]
          rcases h1 with c | ⟨c1, i, i1, i2, i3⟩
          · exact .inl c
          · exact .inr ⟨c1, i, i1, by omega, i3⟩
        · rw [m4]
          exact .inr ⟨m2, k, m1, by omega, hc, m3.symm⟩
      · by_cases c : i = k
        · subst c; exact q3 m i1 m1 i4.symm
        · exact Nat.le_trans (h2 m ⟨m1, i, i1, by omega, i3, i4⟩) q2
    · rename_i hc
      refine ⟨?_, fun m ⟨m1, i, i1, i2, i3, i4⟩ => ?_⟩
      · rcases h1 with c | ⟨c1, i, i1, i2, i3⟩
        · exact .inl c
        · exact .inr ⟨c1, i, i1, by omega, i3⟩
      · by_cases c : i = k
        · subst c; exact absurd i3 hc
        · exact h2 m ⟨m1, i, i1, by omega, i3, i4⟩
theorem point_eq {l : List Evt} (h : Right l) : outerP l l.length = pointM l := by
  refine IsMax.uniq (Q := fun m => m < l.length ∧ PtQ l m) ?_ (pointTo_max h l.length (Nat.le_refl _))
  obtain ⟨h1, h2⟩ := outerP_max l l.length (Nat.le_refl _)
  refine ⟨?_, fun m hm => h2 m ⟨hm.2.2.1, hm.2.2.2⟩⟩
  rcases h1 with c | ⟨c1, i, i1, i2, i3⟩
  · exact .inl c
  · exact .inr ⟨by omega, by omega, c1, i, i1, i2, i3⟩
end Go.Proofs
end

section
open Go Go.Am
namespace Go.Proofs
theorem isAhead_iff {e : Evt} {s : Int} : isAhead e s = true ↔ e.ret = true ∧ e.serial = s ∧ e.err = 0 := by
  unfold isAhead
  simp only [Bool.and_eq_true, decide_eq_true_eq, and_assoc]
theorem ahead_iff {l : List Evt} {s : Int} {n : Nat} : aheadM l s n = true ↔ ∃ i, i < n ∧ (ev l i).ret = true ∧ (ev l i).serial = s ∧ (ev l i).err = 0 := by
  rw [aheadM_iff]
  constructor
  · rintro ⟨i, h1, h2⟩; exact ⟨i, h1, isAhead_iff.1 h2⟩
  · rintro ⟨i, h1, h2⟩; exact ⟨i, h1, isAhead_iff.2 h2⟩
theorem settleE_iff {e : Evt} {b : Int} : settleE e b = true ↔ e.ret = true ∧ changesE e b = true ∧ e.err = 0 := by
  unfold settleE
  simp only [Bool.and_eq_true, decide_eq_true_eq, and_assoc]
theorem mem_settled {l : List Evt} {b : Int} {n : Nat} (hn : n ≤ l.length) {s : Int} : s ∈ settledM l b n ↔ ∃ i, i < n ∧ settleE (ev l i) b = true ∧ (ev l i).serial = s := by
  unfold settledM
  rw [List.mem_map]
  constructor
  · rintro ⟨e, he, rfl⟩
    obtain ⟨h1, h2⟩ := List.mem_filter.1 he
    obtain ⟨i, hi, rfl⟩ := List.getElem_of_mem h1
    rw [List.length_take] at hi
    have : (l.take n)[i] = ev l i := by
      rw [List.getElem_take]
      simp [ev, List.getD, (by omega : i < l.length)]
    rw [this] at h2 ⊢
    exact ⟨i, by omega, h2, rfl⟩
  · rintro ⟨i, h1, h2, rfl⟩
    refine ⟨ev l i, List.mem_filter.2 ⟨?_, h2⟩, rfl⟩
    have : (l.take n)[i]'(by rw [List.length_take]; omega) = ev l i := by
      rw [List.getElem_take]
      simp [ev, List.getD, (by omega : i < l.length)]
    rw [← this]
    exact List.getElem_mem _
theorem changes_congr {e f : Evt} {b : Int} (h1 : e.kind = f.kind) (h2 : e.block = f.block) : changesE e b = changesE f b := by
  unfold changesE; rw [h1, h2]
theorem changes_op {l : List Evt} {e : Evt} {b : Int} : changesE (opOf l e) b = changesE e b := changes_congr (opOf_keep l e).2.1 (opOf_keep l e).2.2.1
/-- There is something settled with this number just if its operation changes the block and was answered ahead. -/
theorem settled_op {l : List Evt} (h : Right l) {b : Int} {n m : Nat} (hn : n ≤ l.length) (hm : m < l.length) (hr : (ev l m).ret = false) : (ev l m).serial ∈ settledM l b n ↔ changesE (ev l m) b = true ∧ aheadM l (ev l m).serial n = true := by
  rw [mem_settled hn, ahead_iff]
  constructor
  · rintro ⟨i, i1, i2, i3⟩
    obtain ⟨q1, q2, q3⟩ := settleE_iff.1 i2
    obtain ⟨-, c1, c2, -⟩ := h.cmd (by omega) hm q1 hr i3.symm
    exact ⟨by rw [changes_congr c1 c2]; exact q2, i, i1, q1, i3, q3⟩
  · rintro ⟨c, i, i1, i2, i3, i4⟩
    obtain ⟨-, c1, c2, -⟩ := h.cmd (by omega) hm i2 hr i3.symm
    exact ⟨i, i1, settleE_iff.2 ⟨i2, by rw [← changes_congr c1 c2]; exact c, i4⟩, i3⟩
theorem settled_inv {l : List Evt} (h : Right l) {b : Int} {n : Nat} (hn : n ≤ l.length) {s : Int} (hs : s ∈ settledM l b n) : ∃ m, m < n ∧ (ev l m).ret = false ∧ (ev l m).serial = s := by
  obtain ⟨i, i1, i2, rfl⟩ := (mem_settled hn).1 hs
  obtain ⟨m, m1, m2, m3, -⟩ := h.inv_of (by omega) (settleE_iff.1 i2).1
  exact ⟨m, by omega, m2, m3⟩
theorem covR_iff {l ops : List Evt} {b : Int} {n i : Nat} : ∀ k, covR l ops b n i k = true ↔ ∃ j, j < k ∧ j ≠ i ∧ changesE (ops.getD j default) b = true ∧ aheadM l (ops.getD j default).serial n = true ∧ beforeM l (ops.getD i default).serial (ops.getD j default).serial = true
  | 0 => by simp [covR]
  | k + 1 => by
    rw [covR, Bool.or_eq_true, covR_iff k]
    simp only [Bool.and_eq_true, decide_eq_true_eq, and_assoc]
    constructor
    · rintro (⟨j, h1, h2⟩ | h)
      · exact ⟨j, by omega, h2⟩
      · exact ⟨k, by omega, h⟩
    · rintro ⟨j, h1, h2⟩
      by_cases c : j = k
      · subst c; exact .inr h2
      · exact .inl ⟨j, by omega, h2⟩
theorem cov_eq {l : List Evt} (h : Right l) {b : Int} {n i : Nat} (hn : n ≤ l.length) (hi : i < (operationsM l).length) : covR l (operationsM l) b n i (operationsM l).length = covM l (settledM l b n) ((operationsM l).getD i default).serial := by
  rw [Bool.eq_iff_iff, covR_iff]
  unfold covM
  rw [List.any_eq_true]
  constructor
  · rintro ⟨j, j1, j2, j3, j4, j5⟩
    obtain ⟨m, m1, m2, m3⟩ := (mem_ops h).1 (ev_mem j1)
    unfold ev at m3
    rw [m3] at j3 j4 j5
    rw [changes_op] at j3
    rw [(opOf_keep l _).1] at j4 j5
    exact ⟨_, (settled_op h hn m1 m2).2 ⟨j3, j4⟩, j5⟩
  · rintro ⟨s, s1, s2⟩
    obtain ⟨m, m1, m2, rfl⟩ := settled_inv h hn s1
    obtain ⟨c1, c2⟩ := (settled_op h hn (by omega) m2).1 s1
    obtain ⟨j, j1, j2⟩ := mem_ev ((mem_ops h).2 ⟨m, by omega, m2, rfl⟩)
    unfold ev at j2
    refine ⟨j, j1, ?_, ?_, ?_, ?_⟩
    · rintro rfl
      rw [j2, (opOf_keep l _).1] at s2
      have := before_self h (ev l m).serial
      unfold ev at this
      rw [this] at s2
      cases s2
    · rw [j2]
      exact changes_op.trans c1
    · rw [j2, (opOf_keep l _).1]; exact c2
    · have e : (l.getD m default).serial = ((operationsM l).getD j default).serial := by rw [j2, (opOf_keep l _).1]
      rw [← e]; exact s2
theorem liveE_iff {e : Evt} {b : Int} : liveE e b = true ↔ changesE e b = true ∧ (e.ret = true → e.err = 0) := by
  unfold liveE
  rw [Bool.and_eq_true]
  cases e.ret <;> simp
theorem firstR_iff {l ops : List Evt} {b : Int} {n : Nat} : ∀ k, firstR l ops b n k = true ↔ ∀ i, i < k → liveE (ops.getD i default) b = true → aheadM l (ops.getD i default).serial n = false
  | 0 => by simp [firstR]
  | k + 1 => by
    have ih := firstR_iff (l := l) (ops := ops) (b := b) (n := n) k
    simp only [firstR]
    split
    · rename_i hc
      rw [Bool.and_eq_true, ih, Bool.not_eq_true']
      constructor
      · rintro ⟨h1, h2⟩ i hi hl
        by_cases c : i = k
        · subst c; exact h2
        · exact h1 i (by omega) hl
      · intro h; exact ⟨fun i hi => h i (by omega), h k (by omega) hc⟩
    · rename_i hc
      rw [ih]
      constructor
      · intro h i hi hl
        by_cases c : i = k
        · subst c; exact absurd hl hc
        · exact h i (by omega) hl
      · intro h i hi; exact h i (by omega)
theorem first_eq {l : List Evt} (h : Right l) {b : Int} {n : Nat} (hn : n ≤ l.length) : firstR l (operationsM l) b n (operationsM l).length = true ↔ settledM l b n = [] := by
  rw [firstR_iff, List.eq_nil_iff_forall_not_mem]
  constructor
  · intro hf s hs
    obtain ⟨m, m1, m2, rfl⟩ := settled_inv h hn hs
    obtain ⟨c1, c2⟩ := (settled_op h hn (by omega) m2).1 hs
    obtain ⟨j, j1, j2⟩ := mem_ev ((mem_ops h).2 ⟨m, by omega, m2, rfl⟩)
    have hl : liveE (ev (operationsM l) j) b = true := by
      rw [j2, liveE_iff, changes_op]
      refine ⟨c1, fun _ => ?_⟩
      obtain ⟨i, i1, i2, i3, i4⟩ := ahead_iff.1 c2
      rw [opOf_ret h (by omega) i2 i3]
      exact i4
    have := hf j j1 hl
    unfold ev at j2
    rw [j2, (opOf_keep l _).1] at this
    unfold ev at c2
    rw [c2] at this
    cases this
  · intro hs i hi hl
    cases hc : aheadM l ((operationsM l).getD i default).serial n with
    | false => rfl
    | true =>
      exfalso
      obtain ⟨m, m1, m2, m3⟩ := (mem_ops h).1 (ev_mem hi)
      unfold ev at m3
      rw [m3] at hl hc
      rw [(opOf_keep l _).1] at hc
      rw [liveE_iff, changes_op] at hl
      exact hs _ ((settled_op h hn m1 m2).2 ⟨hl.1, hc⟩)
theorem outR_asc (l ops : List Evt) (b : Int) (n : Nat) : ∀ i, asc (outR l ops b n i)
  | 0 => List.Pairwise.nil
  | i + 1 => by
    have := outR_asc l ops b n i
    simp only [outR]
    split
    · exact (putM_asc this).1
    · exact this
theorem mem_outR {l ops : List Evt} {b : Int} {n : Nat} {x : ByteArray} : ∀ k, x ∈ outR l ops b n k ↔ ∃ i, i < k ∧ liveE (ops.getD i default) b = true ∧ covR l ops b n i ops.length = false ∧ x = valueM (ops.getD i default)
  | 0 => by simp [outR]
  | k + 1 => by
    have ih := mem_outR (l := l) (ops := ops) (b := b) (n := n) (x := x) k
    simp only [outR]
    split
    · rename_i hc
      rw [(putM_asc (outR_asc l ops b n k)).2, ih]
      constructor
      · rintro (⟨i, h1, h2⟩ | h)
        · exact ⟨i, by omega, h2⟩
        · exact ⟨k, by omega, hc.1, hc.2, h⟩
      · rintro ⟨i, h1, h2⟩
        by_cases c : i = k
        · subst c; exact .inr h2.2.2
        · exact .inl ⟨i, by omega, h2⟩
    · rename_i hc
      rw [ih]
      constructor
      · rintro ⟨i, h1, h2⟩; exact ⟨i, by omega, h2⟩
      · rintro ⟨i, h1, h2⟩
        by_cases c : i = k
        · subst c; exact absurd ⟨h2.1, h2.2.1⟩ hc
        · exact ⟨i, by omega, h2⟩
theorem mem_outD {l ops : List Evt} {b : Int} {st : List Int} {init : List ByteArray} {x : ByteArray} : ∀ k, x ∈ outD l ops b st init k ↔ x ∈ init ∨ ∃ i, i < k ∧ liveE (ops.getD i default) b = true ∧ covM l st (ops.getD i default).serial = false ∧ x = valueM (ops.getD i default)
  | 0 => by simp [outD]
  | k + 1 => by
    have ih := mem_outD (l := l) (ops := ops) (b := b) (st := st) (init := init) (x := x) k
    simp only [outD]
    split
    · rename_i hc
      rw [List.mem_append, List.mem_singleton, ih]
      constructor
      · rintro ((h | ⟨i, h1, h2⟩) | h)
        · exact .inl h
        · exact .inr ⟨i, by omega, h2⟩
        · exact .inr ⟨k, by omega, hc.1, hc.2, h⟩
      · rintro (h | ⟨i, h1, h2⟩)
        · exact .inl (.inl h)
        · by_cases c : i = k
          · subst c; exact .inr h2.2.2
          · exact .inl (.inr ⟨i, by omega, h2⟩)
    · rename_i hc
      rw [ih]
      constructor
      · rintro (h | ⟨i, h1, h2⟩)
        · exact .inl h
        · exact .inr ⟨i, by omega, h2⟩
      · rintro (h | ⟨i, h1, h2⟩)
        · exact .inl h
        · by_cases c : i = k
          · subst c; exact absurd ⟨h2.1, h2.2.1⟩ hc
          · exact .inr ⟨i, by omega, h2⟩
theorem allowed_eq (bs : List ByteArray) (l : List Evt) (b : Int) : allowedD bs l b = allowedR bs l b := by
  unfold allowedD allowedR
  by_cases h0 : sizesM bs l ≠ 0 ∨ b < 0 ∨ (bs.length : Int) ≤ b
  · rw [if_pos h0, if_pos h0]
  · rw [if_neg h0, if_neg h0]
    have hz := sizes_range (bs := bs) (l := l) (by omega)
    have h := Right.of hz.2.2.2.2.1
    rw [point_eq h]
    have hn : pointM l ≤ l.length := pointTo_le l l.length
    generalize pointM l = n at *
    have hmem : ∀ x, (x ∈ outR l (operationsM l) b n (operationsM l).length) ↔ ∃ i, i < (operationsM l).length ∧ liveE ((operationsM l).getD i default) b = true ∧ covM l (settledM l b n) ((operationsM l).getD i default).serial = false ∧ x = valueM ((operationsM l).getD i default) := by
      intro x
      rw [mem_outR]
      constructor
      · rintro ⟨i, h1, h2, h3, h4⟩; exact ⟨i, h1, h2, by rw [← cov_eq h hn h1]; exact h3, h4⟩
      · rintro ⟨i, h1, h2, h3, h4⟩; exact ⟨i, h1, h2, by rw [cov_eq h hn h1]; exact h3, h4⟩
    by_cases hf : settledM l b n = []
    · rw [if_pos ((first_eq h hn).2 hf)]
      have ha := putM_asc (v := bs.getD b.toNat ByteArray.empty) (outR_asc l (operationsM l) b n (operationsM l).length)
      refine asc_ext (putAll_asc _) ha.1 fun x => ?_
      rw [mem_putAll, mem_outD, ha.2, hmem]
      unfold initD
      rw [if_pos hf, List.mem_singleton, or_comm]
    · rw [if_neg (fun c => hf ((first_eq h hn).1 c))]
      refine asc_ext (putAll_asc _) (outR_asc _ _ _ _ _) fun x => ?_
      rw [mem_putAll, mem_outD, hmem]
      unfold initD
      rw [if_neg hf]
      simp
end Go.Proofs
end
