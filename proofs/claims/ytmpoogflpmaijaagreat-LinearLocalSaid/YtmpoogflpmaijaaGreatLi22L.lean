/- Part of the proofs of laws of this seat: contracts and plain lemmas; no condition is added to a statement. -/
import Derived.Test.YtmpoogflpmaijaaGreatLinHL
import Derived.Test.YtmpoogflpmaijaaGreatLi20L
import Derived.Test.YtmpoogflpmaijaaGreatLi21L
set_option linter.unusedSimpArgs false
set_option linter.unusedVariables false
open Go Go.Am
namespace Go.Proofs
set_option maxRecDepth 20000
set_option maxHeartbeats 2000000
theorem ops_spec (l : List Evt) (hl : l.length ≤ 10000000) : PSpec Tryz.prog 32 [.c (evC l)] (.c (evC (operationsM l))) := by
  have := PSpec.ofO (operations_spec l hl) fun _ _ _ _ => evCell_imm _ _
  rw [← operations_len] at this
  exact this
theorem ops_body : HasBody Tryz.prog 32 := hB Tryz.func32
theorem findM_no {bs : List ByteArray} {l : List Evt} (h : ¬ findOk bs l) : findM bs l = ([], false) := by unfold findM; rw [if_neg h]
theorem ordG_snoc {os : List (List Int)} {o : List Int} {n : Nat} {t : List C} (hn : n = os.length) {i j : Nat} (hi : i < n + 1) (hj : j < 1) : appG (ordG os) n (flatG 1 (intsC o :: t)) i j = ordG (os ++ [o]) i j := by
  have h0 : j = 0 := by omega
  subst h0
  unfold appG
  by_cases c : i < n
  · rw [if_pos c]
    unfold ordG
    rw [getD_snoc_lt (by omega)]
  · have : i = os.length := by omega
    subst this
    rw [if_neg c, hn, Nat.sub_self]
    unfold ordG
    rw [getD_snoc_eq]
    rfl
def restF (ops : List Evt) (k : Nat) : List Int := ((ops.take k).filter flushE).map Evt.serial
theorem restF_len (ops : List Evt) (k : Nat) : (restF ops k).length ≤ k := by
  unfold restF
  rw [List.length_map]
  exact Nat.le_trans (List.length_filter_le _ _) (by rw [List.length_take]; omega)
theorem restF_succ {ops : List Evt} {k : Nat} (hk : k < ops.length) : restF ops (k + 1) = if flushE (ops.getD k default) = true then restF ops k ++ [(ops.getD k default).serial] else restF ops k := by
  unfold restF
  rw [take_filter_step hk]
  split
  · rw [List.map_append]; rfl
  · rfl
theorem operations_le (l : List Evt) : (operationsM l).length ≤ l.length := by
  rw [operations_len]
  exact begunTo_len l l.length
theorem block_len (v : ByteArray) (l : List Evt) : (blockM v l).1.length ≤ 20 := by
  cases h : (blockM v l).2 with
  | false => rw [blockM_none h]; simp
  | true =>
    obtain ⟨hs, w, h1, h2⟩ := blockM_path h
    obtain ⟨xs, e, m, nd, -⟩ := path_events h1
    rw [e] at nd ⊢
    have := nodup_len nd (b := (operationsM l).map Evt.serial) (fun x hx => by
      obtain ⟨y, hy, rfl⟩ := List.mem_map.1 hx
      exact List.mem_map_of_mem (m y hy).1)
    have hm : ((operationsM l).map Evt.serial).length = (operationsM l).length := List.length_map _
    rw [hm] at this
    exact Nat.le_trans this (single_few hs)
theorem totM_app : ∀ (a b : List (List Int)), totM (a ++ b) = totM a + totM b
  | [], b => by simp [totM]
  | o :: r, b => by rw [List.cons_append, totM, totM, totM_app r b]; omega
theorem ordsM_tot (bs : List ByteArray) (l : List Evt) : ∀ k, totM (ordsM bs l k) ≤ 20 * k
  | 0 => Nat.le_refl _
  | k + 1 => by
    have := ordsM_tot bs l k
    have h2 := block_len (bsAt bs k) (aloneM l k)
    rw [ordsM, totM_app]
    simp only [totM]
    omega
theorem ordsM_few (bs : List ByteArray) (l : List Evt) : ∀ k, ∀ x ∈ ordsM bs l k, x.length ≤ 20
  | 0, x, hx => by simp [ordsM] at hx
  | k + 1, x, hx => by
    rw [ordsM] at hx
    rcases List.mem_append.1 hx with q | q
    · exact ordsM_few bs l k x q
    · simp at q; subst q; exact block_len _ _
theorem flushM_len (l : List Evt) : (flushM l).length ≤ l.length := by
  unfold flushM
  rw [List.length_map]
  exact Nat.le_trans (List.length_filter_le _ _) (operations_le l)
theorem allO_len (bs : List ByteArray) (l : List Evt) : (allO bs l).length = bs.length + 1 := by unfold allO; rw [List.length_append, ordsM_len]; rfl
theorem allO_tot (bs : List ByteArray) (l : List Evt) : totM (allO bs l) ≤ 20 * bs.length + l.length := by
  have := ordsM_tot bs l bs.length
  have h2 := flushM_len l
  unfold allO
  rw [totM_app]
  simp only [totM]
  omega
theorem allO_few {bs : List ByteArray} {l : List Evt} : ∀ x ∈ allO bs l, x.length ≤ 20 + l.length := fun x hx => by
  unfold allO at hx
  rcases List.mem_append.1 hx with q | q
  · have := ordsM_few bs l _ x q; omega
  · simp at q; subst q; have := flushM_len l; omega
theorem find_spec (bs : List ByteArray) (l : List Evt) (hl : l.length ≤ 1000) (hb : bs.length ≤ 1000) (hfl : (flushM l).length ≤ 1) : PSpec Tryz.prog 11 [.c (strsC bs), .c (evC l)] (.t [.inl (intsC (findM bs l).1), .inl (.bool (findM bs l).2)]) := by
  refine PSpec.rm ?_
  refine ov hΓ Tryz.func11 99 0 [.tmp 4, .tmp 5] Tryz.ntmps11 Tryz.results11 ?_
  ((conv=>whnf);(repeat' ((first|refine Nd ?_|refine Hv fun _h=>?_);conv=>whnf)))
  refine CallN.pureA lbase_body (lbase_spec bs l ) ?_
  ((conv=>whnf);(repeat' ((first|refine Nd ?_|refine Hv fun _h=>?_);conv=>whnf)))
  by_cases hs : sizesM bs l = 0
  · refine Br.no (by rw [hs]; rfl) ?_
    ((conv=>whnf);(repeat' ((first|refine Nd ?_|refine Hv fun _h=>?_);conv=>whnf)))
    refine Lp.reserve 22 1 (ordG []) 6 rfl ?_
    refine Lp.mkK hΓ (ι := Nat) [0, 1, 22, 23] (fun k => [(24, .c (.int .i64 k)), (6, .c (.sl 0 1 k k false))]) (fun k => [.arr 22 1 k (ordG (ordsM bs l k))]) (fun k => k ≤ bs.length ∧ allK (foundM bs l) k = true) (fun k => bs.length - k) 0 ⟨Nat.zero_le _, rfl⟩ ?_ ?_
    · refine Mv.k1 ?_
      · exact fun i hi => absurd hi (Nat.not_lt_zero i)
    · rintro k ⟨hk, hfo⟩
      have holen := ordsM_len bs l k
      ((conv=>whnf);(repeat' ((first|refine Nd ?_|refine Hv fun _h=>?_);conv=>whnf)))
      refine Br.of (fun h1=>?_) (fun h1=>?_)<;>(try simp only [Int.toNat_natCast] at h1)<;>(conv=>whnf)
      · ((conv=>whnf);(repeat' ((first|refine Nd ?_|refine Hv fun _h=>?_);conv=>whnf)))
        have hk' : k < bs.length := by omega
        have e0 : (k : Int).toNat = k := by simp
        rw [e0]
        refine CallN.autoQ [] restrictO_body (restrictO_spec l k (by omega)) ?_
        ((conv=>whnf);(repeat' ((first|refine Nd ?_|refine Hv fun _h=>?_);conv=>whnf)))
        have hpl : (restrictM l (k : Int)).length ≤ l.length := List.length_filter_le _ _
        have hpad := padE_len l (k : Int)
        have hpg := padE_get (l := l) (b := (k : Int))
        have hal : (aloneM l (k : Int)).length = (restrictM l (k : Int)).length := by unfold aloneM; rw [List.length_map]
        have hag : ∀ i, i < (restrictM l (k : Int)).length → (aloneM l (k : Int)).getD i default = zeroE ((restrictM l (k : Int)).getD i default) := fun i hi => by
          unfold aloneM
          simp [List.getD, hi]
        refine Lp.mkK hΓ (ι := Nat) [0, 1, 6, 8, 9, 22, 23, 24, 33] (fun i => [(34, .c (.int .i64 i))]) (fun i => [.arr 22 1 k (ordG (ordsM bs l k)), .arr 52 8 l.length (evK zeroE (padE l k) i)]) (fun i => i ≤ (restrictM l k).length) (fun i => (restrictM l k).length - i) 0 (Nat.zero_le _) ?_ ?_
        · refine Mv.k2 ?_ ?_
          · exact fun i _ j _ => WC.imm rfl
          · exact fun i _ j _ => WC.eq ((ev_re _ _ _).trans (by unfold evK; rw [if_neg (Nat.not_lt_zero i)])) (evCell_imm _ _)
        · intro i hi
          ((conv=>whnf);(repeat' ((first|refine Nd ?_|refine Hv fun _h=>?_);conv=>whnf)))
          refine Br.of (fun h2=>?_) (fun h2=>?_)<;>(try simp only [Int.toNat_natCast] at h2)<;>(conv=>whnf)
          · ((conv=>whnf);(repeat' ((first|refine Nd ?_|refine Hv fun _h=>?_);conv=>whnf)))
            have ei : (i : Int).toNat = i := by simp
            refine ⟨i + 1, by omega, by omega, ?_⟩
            refine Mv.k2 ?_ ?_
            · exact fun i _ j _ => WC.imm rfl
            · exact fun i' _ j _ => WC.eq (by rw [ei]; exact zeroE_set i' j) (evCell_imm _ _)
          · ((conv=>whnf);(repeat' ((first|refine Nd ?_|refine Hv fun _h=>?_);conv=>whnf)))
            have : i = (restrictM l (k : Int)).length := by omega
            subst this
            refine CallN.fzK 1 [0, 1, 6, 22, 23, 24] [] [.arr 22 1 k (ordG (ordsM bs l k)), .dead] [.c (.str (bs.getD k ByteArray.empty)), .c (evC (aloneM l k))] rfl (Nat.zero_le _) (fun _ _ _ _ => evCell_imm _ _) ?_ ?_ ?_ leN ?_
            · (repeat' (first | exact WA.nil | refine WA.cons rfl ?_ ?_ | exact WB.nil | refine WB.cons ?_ ?_ | exact WT.nil | refine WT.cons ?_ ?_ | exact WH.nil | refine WH.cons ?_ ?_ | exact WR.nil | refine WR.cons rfl ?_ ?_ | refine WO.vr ?_ | exact WO.dead | exact WO.mpS | refine WO.mpA ?_ | exact WO.arrPA (fun i j => plainRow _ _ _) | refine WO.arrA ?_ | exact WS.u | refine WS.c ?_ | refine WS.a ?_ | refine WS.t ?_ | exact WL.nil | refine WL.cons ?_ ?_ | exact WTL.nil | refine WTL.consC ?_ ?_ | refine WTL.consL ?_ ?_ | exact WC.nils | exact WC.nil rfl | exact WC.nilp | refine WC.fzA | exact WC.ptr rfl leN | exact WC.mpr rfl leN | refine WC.slA | refine WC.intA | refine WC.int ?_ | refine WC.boolA | refine WC.bool ?_ | refine WC.strA | refine WC.str ?_ | exact WC.imm rfl))
              all_goals exact fun i _ j _ => WC.fzImm rfl
            · exact wb0
            · refine wb1 ?_
              exact WC.fz rfl hal.symm (fun i hi j hj => leF.of_eq (by
                unfold evK
                rw [if_pos hi, hpg, if_pos hi]
                show _ = Evt.cell ((aloneM l k).getD i default) j
                rw [hag i hi])) (fun q => by cases q)
            refine CallN.pureA block_body (block_spec (bs.getD k ByteArray.empty) (aloneM l k) (by omega) ) ?_
            ((conv=>whnf);(repeat' ((first|refine Nd ?_|refine Hv fun _h=>?_);conv=>whnf)))
            cases hbk : (blockM (bs.getD k ByteArray.empty) (aloneM l k)).2 with
            | false =>
              refine Br.yes rfl ?_
              ((conv=>whnf);(repeat' ((first|refine Nd ?_|refine Hv fun _h=>?_);conv=>whnf)))
              rw [findM_no fun q => by have := (allK_iff _ _).1 q.2.1 k hk'; rw [show foundM bs l k = false from hbk] at this; cases this]
              exact RM.i0
            | true =>
              refine Br.no rfl ?_
              ((conv=>whnf);(repeat' ((first|refine Nd ?_|refine Hv fun _h=>?_);conv=>whnf)))
              refine ⟨k + 1, ⟨by omega, ?_⟩, by omega, ?_⟩
              · rw [allK, hfo, show foundM bs l k = true from hbk]; rfl
              refine Mv.k1 ?_
              · exact fun i hi j hj => WC.eq (ordG_snoc holen.symm hi hj) rfl
      · ((conv=>whnf);(repeat' ((first|refine Nd ?_|refine Hv fun _h=>?_);conv=>whnf)))
        have hkn : k = bs.length := by omega
        subst hkn
        refine CallN.pureA ops_body (ops_spec l (by omega) ) ?_
        ((conv=>whnf);(repeat' ((first|refine Nd ?_|refine Hv fun _h=>?_);conv=>whnf)))
        refine Lp.reserve 3 1 (intsG .i64 []) 13 rfl ?_
        refine Lp.mkK hΓ (ι := Nat) [0, 1, 6, 57, 58] (fun i => [(59, .c (.int .i64 i)), (13, .c (.sl 1 1 (restF (operationsM l) i).length (restF (operationsM l) i).length false))]) (fun i => [.arr 22 1 bs.length (ordG (ordsM bs l bs.length)), .arr 3 1 (restF (operationsM l) i).length (intsG .i64 (restF (operationsM l) i))]) (fun i => i ≤ (operationsM l).length ∧ allK (cmdB bs.length (operationsM l)) i = true) (fun i => (operationsM l).length - i) 0 ⟨Nat.zero_le _, rfl⟩ ?_ ?_
        · refine Mv.k2 ?_ ?_
          · exact fun i _ j _ => WC.imm rfl
          · exact fun i hi => absurd hi (Nat.not_lt_zero i)
        · rintro i ⟨hi, hcm⟩
          have hrl := restF_len (operationsM l) i
          have hopl := operations_le l
          ((conv=>whnf);(repeat' ((first|refine Nd ?_|refine Hv fun _h=>?_);conv=>whnf)))
          refine Br.of (fun h3=>?_) (fun h3=>?_)<;>(try simp only [Int.toNat_natCast] at h3)<;>(conv=>whnf)
          · ((conv=>whnf);(repeat' ((first|refine Nd ?_|refine Hv fun _h=>?_);conv=>whnf)))
            have hi' : i < (operationsM l).length := by omega
            have ei : (i : Int).toNat = i := by simp
            rw [ei]
            have hrs := restF_succ hi'
            have hcb : allK (cmdB bs.length (operationsM l)) (i + 1) = (allK (cmdB bs.length (operationsM l)) i && cmdB bs.length (operationsM l) i) := rfl
            have hcd : cmdB bs.length (operationsM l) i = (!mustE ((operationsM l).getD i default) || decide (cmdV bs.length ((operationsM l).getD i default).kind ((operationsM l).getD i default).block ((operationsM l).getD i default).data = 0)) := rfl
            generalize hx : (operationsM l).getD i default = x at *
            refine CallN.pureA counts_body (counts_spec x ) ?_
            ((conv=>whnf);(repeat' ((first|refine Nd ?_|refine Hv fun _h=>?_);conv=>whnf)))
            refine CallG.auto cmd_body (fun _ => cmd_spec bs.length x.kind x.block x.data ) ?_
            ((conv=>whnf);(repeat' ((first|refine Nd ?_|refine Hv fun _h=>?_);conv=>whnf)))
            have hm : (x.ret && decide (x.err = 0)) = mustE x := rfl
            have hbr : (bif x.ret && decide (x.err = 0) then cmdV bs.length x.kind x.block x.data != 0 else false) = !(!mustE x || decide (cmdV bs.length x.kind x.block x.data = 0)) := by
              rw [hm]
              cases mustE x <;> by_cases c : cmdV bs.length x.kind x.block x.data = 0 <;> simp [c]
            cases hcx : (!mustE x || decide (cmdV bs.length x.kind x.block x.data = 0)) with
            | false =>
              rw [hcx] at hcd
              refine Br.yes (by rw [hbr, hcx]; rfl) ?_
              ((conv=>whnf);(repeat' ((first|refine Nd ?_|refine Hv fun _h=>?_);conv=>whnf)))
              rw [findM_no fun q => by have := (allK_iff _ _).1 q.2.2 i hi'; rw [hcd] at this; cases this]
              exact RM.i0
            | true =>
              rw [hcx] at hcd
              rw [hcm, hcd] at hcb
              refine Br.no (by rw [hbr, hcx]; rfl) ?_
              ((conv=>whnf);(repeat' ((first|refine Nd ?_|refine Hv fun _h=>?_);conv=>whnf)))
              have hfe : (bif x.ret && decide (x.err = 0) then x.kind == 4 else false) = flushE x := by
                rw [hm]
                unfold flushE
                cases mustE x <;> by_cases c : x.kind = 4 <;> simp [c]
              cases hfx : flushE x with
              | true =>
                rw [hfx, if_pos rfl] at hrs
                refine Br.yes (hfe.trans hfx) ?_
                ((conv=>whnf);(repeat' ((first|refine Nd ?_|refine Hv fun _h=>?_);conv=>whnf)))
                refine ⟨i + 1, ⟨by omega, hcb⟩, by omega, ?_⟩
                rw [hrs, show (restF (operationsM l) i ++ [x.serial]).length = (restF (operationsM l) i).length + 1 by simp]
                refine Mv.k2 ?_ ?_
                · exact fun i _ j _ => WC.imm rfl
                · exact fun i hi j hj => WC.eq (intsG_snoc rfl hi hj) rfl
              | false =>
                rw [hfx, if_neg (by simp)] at hrs
                refine Br.no (hfe.trans hfx) ?_
                ((conv=>whnf);(repeat' ((first|refine Nd ?_|refine Hv fun _h=>?_);conv=>whnf)))
                refine ⟨i + 1, ⟨by omega, hcb⟩, by omega, ?_⟩
                rw [hrs]
                refine Mv.k2 ?_ ?_
                · exact fun i _ j _ => WC.imm rfl
                · exact fun i _ j _ => WC.imm rfl
          · ((conv=>whnf);(repeat' ((first|refine Nd ?_|refine Hv fun _h=>?_);conv=>whnf)))
            have hin : i = (operationsM l).length := by omega
            subst hin
            have hfm : restF (operationsM l) (operationsM l).length = flushM l := by
              unfold restF flushM
              rw [List.take_length]
            rw [hfm]
            have hyes : findM bs l = (mergeM l (totM (allO bs l)) (allO bs l) [], true) := by
              unfold findM
              rw [if_pos ⟨hs, hfo, hcm⟩]
            rw [hyes]
            refine CallN.fzK 1 [0, 1, 6, 91, 92] [] [.arr 22 1 bs.length (ordG (ordsM bs l bs.length)), .dead] [.c (evC l), .c (intsC (flushM l))] rfl (Nat.zero_le _) (fun _ _ _ _ => rfl) ?_ ?_ ?_ leN ?_
            · (repeat' (first | exact WA.nil | refine WA.cons rfl ?_ ?_ | exact WB.nil | refine WB.cons ?_ ?_ | exact WT.nil | refine WT.cons ?_ ?_ | exact WH.nil | refine WH.cons ?_ ?_ | exact WR.nil | refine WR.cons rfl ?_ ?_ | refine WO.vr ?_ | exact WO.dead | exact WO.mpS | refine WO.mpA ?_ | exact WO.arrPA (fun i j => plainRow _ _ _) | refine WO.arrA ?_ | exact WS.u | refine WS.c ?_ | refine WS.a ?_ | refine WS.t ?_ | exact WL.nil | refine WL.cons ?_ ?_ | exact WTL.nil | refine WTL.consC ?_ ?_ | refine WTL.consL ?_ ?_ | exact WC.nils | exact WC.nil rfl | exact WC.nilp | refine WC.fzA | exact WC.ptr rfl leN | exact WC.mpr rfl leN | refine WC.slA | refine WC.intA | refine WC.int ?_ | refine WC.boolA | refine WC.bool ?_ | refine WC.strA | refine WC.str ?_ | exact WC.imm rfl))
              all_goals exact fun i _ j _ => WC.fzImm rfl
            · exact wb0
            · exact wb0
            refine CallN.pureA order_body (order_spec l (flushM l) (by omega) hfl ) ?_
            ((conv=>whnf);(repeat' ((first|refine Nd ?_|refine Hv fun _h=>?_);conv=>whnf)))
            have hal := allO_len bs l
            have htt := allO_tot bs l
            have hms := merge_spec l (allO bs l) (by omega) (fun x hx => by have := allO_few x hx; omega) (by omega)
            rw [hal] at hms
            refine CallN.autoQ [0] merge_body hms ?_ (h := ?_)
            · ((conv=>whnf);(repeat' ((first|refine Nd ?_|refine Hv fun _h=>?_);conv=>whnf)))
              exact RM.i0
            · refine wb1 ?_
              exact fun i hi j hj => WC.eq (ordG_snoc holen.symm hi hj) rfl
  · refine Br.yes (by simp [hs]) ?_
    ((conv=>whnf);(repeat' ((first|refine Nd ?_|refine Hv fun _h=>?_);conv=>whnf)))
    rw [findM_no (fun q => hs q.1)]
    exact RM.i0
theorem find_body : HasBody Tryz.prog 11 := hB Tryz.func11
end Go.Proofs
