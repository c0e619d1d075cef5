/- Part of the proofs of laws of this seat: contracts and plain lemmas; no condition is added to a statement. -/
import Derived.Test.YtmpoogflpmaijaaGreatAmF
import Derived.Test.YtmpoogflpmaijaaGreatAmG
import Derived.Test.YtmpoogflpmaijaaGreatLinB
import Derived.Test.YtmpoogflpmaijaaGreatLi5
import Derived.Test.YtmpoogflpmaijaaGreatLinD
import Derived.Test.YtmpoogflpmaijaaGreatLi7
set_option linter.unusedSimpArgs false
set_option linter.unusedVariables false
section
open Go Go.Am
namespace Go.Proofs
set_option maxRecDepth 20000
set_option maxHeartbeats 1000000
/-- Is this an event of the block? -/
def inB (b : Int) (e : Evt) : Bool := decide (e.block = b) && (decide (e.kind = 1) || decide (e.kind = 2) || decide (e.kind = 3))
def restrictM (l : List Evt) (b : Int) : List Evt := l.filter (inB b)
theorem take_filter_step {l : List Evt} {k : Nat} {p : Evt → Bool} (hk : k < l.length) : (l.take (k + 1)).filter p = if p (l.getD k default) = true then (l.take k).filter p ++ [l.getD k default] else (l.take k).filter p := take_filter_succ hk
theorem restrict18O_spec (l : List Evt) (b : Int) (hl : l.length ≤ 10000000) : CSpec Tryz.prog 22 [.c (evC l), .c (.int .i64 b)] [] fun s H => s = .c (.sl 0 8 (restrictM l b).length (restrictM l b).length false) ∧ H = [.arr 52 8 (restrictM l b).length (evG (restrictM l b))] := by
  refine CSpec.rm ?_
  refine ov hΓ Tryz.func22 48 0 [.tmp 4] Tryz.ntmps22 Tryz.results22 ?_
  ((conv=>whnf);(repeat' ((first|refine Nd ?_|refine Hv fun _h=>?_);conv=>whnf)))
  refine Lp.reserve 52 8 (evG []) 5 rfl ?_
  refine Lp.mkK hΓ (ι := Nat) [0, 1] (fun k => [(6, .c (.int .i64 k)), (5, .c (.sl 0 8 ((l.take k).filter (inB b)).length ((l.take k).filter (inB b)).length false))]) (fun k => [.arr 52 8 ((l.take k).filter (inB b)).length (evG ((l.take k).filter (inB b)))]) (fun k => k ≤ l.length) (fun k => l.length - k) 0 (Nat.zero_le _) ?_ ?_
  · refine Mv.k1 ?_
    exact fun i hi => absurd hi (Nat.not_lt_zero i)
  · intro k hk
    have hfl : ((l.take k).filter (inB b)).length ≤ k := Nat.le_trans (List.length_filter_le _ _) (by rw [List.length_take]; omega)
    ((conv=>whnf);(repeat' ((first|refine Nd ?_|refine Hv fun _h=>?_);conv=>whnf)))
    refine Br.of (fun h1=>?_) (fun h1=>?_)<;>(try simp only [Int.toNat_natCast] at h1)<;>(conv=>whnf)
    · ((conv=>whnf);(repeat' ((first|refine Nd ?_|refine Hv fun _h=>?_);conv=>whnf)))
      have hk' : k < l.length := by omega
      have e0 : (k : Int).toNat = k := by simp
      rw [e0]
      have hs := take_filter_step (p := inB b) hk'
      generalize hx : l.getD k default = x at *
      have hc : (bif x.block == b then bif bif x.kind == 1 then true else x.kind == 2 then true else x.kind == 3 else false) = inB b x := by
        unfold inB
        by_cases c0 : x.block = b <;> by_cases c1 : x.kind = 1 <;> by_cases c2 : x.kind = 2 <;> by_cases c3 : x.kind = 3 <;> simp [c0, c1, c2, c3]
      generalize hF : (l.take k).filter (inB b) = F at *
      cases hb : inB b x with
      | true =>
        rw [if_pos hb] at hs
        refine Br.yes (hc.trans hb) ?_
        ((conv=>whnf);(repeat' ((first|refine Nd ?_|refine Hv fun _h=>?_);conv=>whnf)))
        refine ⟨k + 1, by omega, by omega, ?_⟩
        rw [hs, e0, hx]
        refine Mv.k1 ?_
        · exact fun i hi j hj => WC.eq (ev_snoc rfl (by simpa using hi) hj) (evCell_imm _ _)
      | false =>
        rw [if_neg (by rw [hb]; simp)] at hs
        refine Br.no (hc.trans hb) ?_
        ((conv=>whnf);(repeat' ((first|refine Nd ?_|refine Hv fun _h=>?_);conv=>whnf)))
        refine ⟨k + 1, by omega, by omega, ?_⟩
        rw [hs]
        refine Mv.k1 ?_
        · exact fun i _ j _ => WC.imm (evCell_imm _ _)
    · ((conv=>whnf);(repeat' ((first|refine Nd ?_|refine Hv fun _h=>?_);conv=>whnf)))
      have : k = l.length := by omega
      subst this
      rw [List.take_length]
      exact ⟨_, _, RM.refl, rfl, rfl⟩
theorem restrict18_body : HasBody Tryz.prog 22 := hB Tryz.func22
theorem restrict18_spec (l : List Evt) (b : Int) (hl : l.length ≤ 10000000) : PSpec Tryz.prog 22 [.c (evC l), .c (.int .i64 b)] (.c (evC (restrictM l b))) := PSpec.ofO (restrict18O_spec l b hl) fun _ _ _ _ => evCell_imm _ _
theorem evts_key {a b : List Evt} (hl : a.length = b.length) : a = b ↔ ∀ i, i < a.length → a.getD i default = b.getD i default := by
  constructor
  · rintro rfl; simp
  · intro h
    refine List.ext_getElem hl fun i h1 h2 => ?_
    have := h i h1
    rwa [getD_at h1, getD_at h2] at this
theorem ev_eq (x y : Evt) : (decide (x.ret = y.ret) && (decide (x.queue = y.queue) && (decide (x.serial = y.serial) && (decide (x.kind = y.kind) && (decide (x.block = y.block) && (decide (x.data = y.data) && (decide (x.err = y.err) && (decide (x.rdata = y.rdata) && true)))))))) = decide (x = y) := by
  cases x; cases y
  rw [Bool.eq_iff_iff]
  simp
theorem same18_spec (a b : List Evt) : PSpec Tryz.prog 70 [.c (evC a), .c (evC b)] (.c (.bool (decide (a = b)))) := by
  refine PSpec.rm ?_
  refine ov hΓ Tryz.func70 26 0 [.tmp 4] Tryz.ntmps70 Tryz.results70 ?_
  ((conv=>whnf);(repeat' ((first|refine Nd ?_|refine Hv fun _h=>?_);conv=>whnf)))
  refine Br.of (fun h0=>?_) (fun h0=>?_)<;>(try simp only [Int.toNat_natCast] at h0)<;>(conv=>whnf)
  · ((conv=>whnf);(repeat' ((first|refine Nd ?_|refine Hv fun _h=>?_);conv=>whnf)))
    rw [decide_eq_false (fun e => h0 (by rw [e]))]
    exact RM.i0
  · ((conv=>whnf);(repeat' ((first|refine Nd ?_|refine Hv fun _h=>?_);conv=>whnf)))
    refine Lp.mkK hΓ (ι := Nat) [0, 1] (fun i => [(5, .c (.int .i64 i))]) (fun i => []) (fun i => i ≤ a.length ∧ ∀ j, j < i → a.getD j default = b.getD j default) (fun i => a.length - i) 0 ⟨Nat.zero_le _, fun j hj => absurd hj (by omega)⟩ ?_ ?_
    · exact Mv.k0
    · intro k ⟨hk, hs⟩
      ((conv=>whnf);(repeat' ((first|refine Nd ?_|refine Hv fun _h=>?_);conv=>whnf)))
      refine Br.of (fun h1=>?_) (fun h1=>?_)<;>(try simp only [Int.toNat_natCast] at h1)<;>(conv=>whnf)
      · ((conv=>whnf);(repeat' ((first|refine Nd ?_|refine Hv fun _h=>?_);conv=>whnf)))
        refine Dr.mk hΓ hMix (by kernel_rfl) ?_; conv=>whnf
        ((conv=>whnf);(repeat' ((first|refine Nd ?_|refine Hv fun _h=>?_);conv=>whnf)))
        have e0 : (k : Int).toNat = k := by simp
        rw [e0, ev_eq]
        by_cases c : a.getD k default = b.getD k default
        · refine Br.no (by rw [decide_eq_true c]; rfl) ?_
          ((conv=>whnf);(repeat' ((first|refine Nd ?_|refine Hv fun _h=>?_);conv=>whnf)))
          refine ⟨k + 1, ⟨by omega, fun j hj => ?_⟩, by omega, ?_⟩
          · by_cases cj : j = k
            · subst cj; exact c
            · exact hs j (by omega)
          exact Mv.k0
        · refine Br.yes (by rw [decide_eq_false c]; rfl) ?_
          ((conv=>whnf);(repeat' ((first|refine Nd ?_|refine Hv fun _h=>?_);conv=>whnf)))
          rw [decide_eq_false (fun e => c (by rw [e]))]
          exact RM.i0
      · ((conv=>whnf);(repeat' ((first|refine Nd ?_|refine Hv fun _h=>?_);conv=>whnf)))
        have : k = a.length := by omega
        subst this
        rw [decide_eq_true ((evts_key (by omega)).2 hs)]
        exact RM.i0
theorem same18_body : HasBody Tryz.prog 70 := hB Tryz.func70
theorem skipped_spec (x : Evt) : PSpec Tryz.prog 87 [.a x.cells] (.c (.bool (!canE x))) := by
  refine PSpec.rm ?_
  refine ov hΓ Tryz.func87 11 0 [.tmp 2] Tryz.ntmps87 Tryz.results87 ?_
  conv=>whnf
  refine Need.mk (by intro h; simp [h]) ?_
  ((conv=>whnf);(repeat' ((first|refine Nd ?_|refine Hv fun _h=>?_);conv=>whnf)))
  refine RM.i1 ?_
  · unfold canE
    cases x.ret
    · rfl
    · by_cases h : x.err = 0 <;> simp [h]
theorem skipped_body : HasBody Tryz.prog 87 := hB Tryz.func87
theorem next19_spec (x : Evt) (v : ByteArray) : PSpec Tryz.prog 73 [.a x.cells, .c (.str v)] (.t [.inl (.str (nextV v x)), .inl (.bool (stepOk [v] x))]) := by
  refine PSpec.rm ?_
  refine ov hΓ Tryz.func73 28 0 [.tmp 4, .tmp 5] Tryz.ntmps73 Tryz.results73 ?_
  ((conv=>whnf);(repeat' ((first|refine Nd ?_|refine Hv fun _h=>?_);conv=>whnf)))
  refine CallN.fzK 1 [2, 4, 5] [] [.vr x.cells, .dead] [.c (strsC [v]), .a [.int .i64 x.kind, .int .i64 x.block, .str x.data]] rfl (Nat.zero_le _) ?_ ?_ ?_ ?_ leN ?_
  · intro i hi j hj
    have h0 : i = 0 := by omega
    have h1 : j = 0 := by have : j < 1 := hj; omega
    subst h0 h1; rfl
  all_goals (repeat' (first | exact WA.nil | refine WA.cons rfl ?_ ?_ | exact WB.nil | refine WB.cons ?_ ?_ | exact WT.nil | refine WT.cons ?_ ?_ | exact WH.nil | refine WH.cons ?_ ?_ | exact WR.nil | refine WR.cons rfl ?_ ?_ | refine WO.vr ?_ | exact WO.dead | exact WO.mpS | refine WO.mpA ?_ | exact WO.arrPA (fun i j => plainRow _ _ _) | refine WO.arrA ?_ | exact WS.u | refine WS.c ?_ | refine WS.a ?_ | refine WS.t ?_ | exact WL.nil | refine WL.cons ?_ ?_ | exact WTL.nil | refine WTL.consC ?_ ?_ | refine WTL.consL ?_ ?_ | exact WC.nils | exact WC.nil rfl | exact WC.nilp | refine WC.fzA | exact WC.ptr rfl leN | exact WC.mpr rfl leN | refine WC.slA | refine WC.intA | refine WC.int ?_ | refine WC.boolA | refine WC.bool ?_ | refine WC.strA | refine WC.str ?_ | exact WC.imm rfl))
  · exact WC.fz rfl rfl (fun i hi j hj => leF.of_eq (by
      have h0 : i = 0 := by omega
      have h1 : j = 0 := by have : j < 1 := hj; omega
      subst h0 h1; rfl)) (fun q => by cases q)
  refine CallN.pureA apply17_body (apply17_spec [v] x.kind x.block x.data (by simp) ) ?_
  ((conv=>whnf);(repeat' ((first|refine Nd ?_|refine Hv fun _h=>?_);conv=>whnf)))
  rw [show appB [v] x.kind x.block x.data = [nextV v x] from stepB_one v x]
  refine Dr.mk hΓ hMix (by kernel_rfl) ?_; conv=>whnf
  ((conv=>whnf);(repeat' ((first|refine Nd ?_|refine Hv fun _h=>?_);conv=>whnf)))
  refine RM.i1 ?_
  · unfold stepOk
    cases x.ret <;> simp
theorem next19_body : HasBody Tryz.prog 73 := hB Tryz.func73
def zeroE (e : Evt) : Evt := { e with block := 0 }
def aloneM (l : List Evt) (b : Int) : List Evt := (restrictM l b).map zeroE
theorem zeroE_set {b : List Evt} {k : Nat} (i j : Nat) : updG (evK zeroE b k) k 4 [.int .i64 0] i j = evK zeroE b (k + 1) i j := by
  rw [updG_one]
  unfold evK
  by_cases c : i = k
  · subst c
    rw [if_neg (Nat.lt_irrefl i), if_pos (Nat.lt_succ_self i)]
    match j with
    | 0 => rw [if_neg (by omega)]; rfl
    | 1 => rw [if_neg (by omega)]; rfl
    | 2 => rw [if_neg (by omega)]; rfl
    | 3 => rw [if_neg (by omega)]; rfl
    | 4 => rw [if_pos (by omega)]; rfl
    | 5 => rw [if_neg (by omega)]; rfl
    | 6 => rw [if_neg (by omega)]; rfl
    | 7 => rw [if_neg (by omega)]; rfl
    | j + 8 => rw [if_neg (by omega)]; rfl
  · rw [if_neg (fun q => c q.1)]
    by_cases d : i < k
    · rw [if_pos d, if_pos (by omega)]
    · rw [if_neg d, if_neg (by omega)]
theorem alone_spec (l : List Evt) (b : Int) (hl : l.length ≤ 10000000) : PSpec Tryz.prog 50 [.c (evC l), .c (.int .i64 b)] (.c (evC (aloneM l b))) := by
  refine PSpec.rm ?_
  refine ov hΓ Tryz.func50 22 0 [.tmp 4] Tryz.ntmps50 Tryz.results50 ?_
  ((conv=>whnf);(repeat' ((first|refine Nd ?_|refine Hv fun _h=>?_);conv=>whnf)))
  refine CallN.autoQ [] restrict18_body (restrict18O_spec l b hl) ?_; conv=>whnf
  ((conv=>whnf);(repeat' ((first|refine Nd ?_|refine Hv fun _h=>?_);conv=>whnf)))
  have hrl : (restrictM l b).length ≤ l.length := List.length_filter_le _ _
  generalize hR : restrictM l b = R at *
  refine Lp.mkK hΓ (ι := Nat) [5] (fun k => [(6, .c (.int .i64 k))]) (fun k => [.arr 52 8 R.length (evK zeroE R k)]) (fun k => k ≤ R.length) (fun k => R.length - k) 0 (Nat.zero_le _) ?_ ?_
  · refine Mv.k1 ?_
    · exact fun i _ j _ => WC.eq ((ev_re _ _ _).trans (by unfold evK; rw [if_neg (Nat.not_lt_zero i)])) (evCell_imm _ _)
  · intro k hk
    ((conv=>whnf);(repeat' ((first|refine Nd ?_|refine Hv fun _h=>?_);conv=>whnf)))
    refine Br.of (fun h1=>?_) (fun h1=>?_)<;>(try simp only [Int.toNat_natCast] at h1)<;>(conv=>whnf)
    · ((conv=>whnf);(repeat' ((first|refine Nd ?_|refine Hv fun _h=>?_);conv=>whnf)))
      refine ⟨k + 1, by omega, by omega, ?_⟩
      have e0 : (k : Int).toNat = k := by simp
      refine Mv.k1 ?_
      · exact fun i _ j _ => WC.eq (by rw [e0]; exact zeroE_set i j) (evCell_imm _ _)
    · ((conv=>whnf);(repeat' ((first|refine Nd ?_|refine Hv fun _h=>?_);conv=>whnf)))
      have : k = R.length := by omega
      subst this
      refine RM.fz 0 rfl (Nat.zero_le _) (fun _ _ _ _ => evCell_imm _ _) ?_
      refine RM.w1 ?_
      · exact WC.fz rfl (by rw [aloneM, List.length_map, hR]) (fun i hi j hj => leF.of_eq (by
          unfold evK
          rw [if_pos hi]
          show _ = Evt.cell ((aloneM l b).getD i default) j
          rw [aloneM, hR]
          congr 1
          simp [List.getD, hi])) (fun q => by cases q)
theorem alone_body : HasBody Tryz.prog 50 := hB Tryz.func50
theorem single_eq (v : ByteArray) (l : List Evt) : singleM v l = (decide (sizesM [v] l = 0) && decide (restrictM l 0 = l) && decide ((operationsM l).length ≤ 20)) := by
  unfold singleM
  congr 2
  rw [Bool.eq_iff_iff, allK_iff, decide_eq_true_eq]
  unfold restrictM
  rw [List.filter_eq_self]
  have e : ∀ x : Evt, evAlone x = inB 0 x := fun x => by
    unfold evAlone inB
    by_cases c0 : x.block = 0 <;> by_cases c1 : x.kind = 1 <;> by_cases c2 : x.kind = 2 <;> by_cases c3 : x.kind = 3 <;> simp [c0, c1, c2, c3] <;> omega
  constructor
  · intro h x hx
    obtain ⟨i, hi, rfl⟩ := List.getElem_of_mem hx
    have := h i hi
    rw [getD_at hi, e] at this
    exact this
  · intro h i hi
    rw [getD_at hi, e]
    exact h _ (List.getElem_mem hi)
theorem single19_spec (v : ByteArray) (l : List Evt) (hl : l.length ≤ 10000000) : PSpec Tryz.prog 44 [.c (.str v), .c (evC l)] (.c (.bool (singleM v l))) := by
  refine PSpec.rm ?_
  refine ov hΓ Tryz.func44 21 0 [.tmp 4] Tryz.ntmps44 Tryz.results44 ?_
  ((conv=>whnf);(repeat' ((first|refine Nd ?_|refine Hv fun _h=>?_);conv=>whnf)))
  refine CallN.reads (args' := [.c (strsC [v]), .c (evC l)]) (r := .c (.int .i64 (sizesM [v] l))) sizes_body (sizes_spec [v] l) ?_ rfl ?_
  · refine BwA.cons (BwS.c (bwStrs (f := [v]) rfl rfl fun i hi j hj => ?_)) (BwA.cons (BwS.c (Bw.same rfl)) BwA.nil)
    have hi0 : i = 0 := by omega
    have hj0 : j = 0 := by omega
    subst hi0 hj0
    rfl
  ((conv=>whnf);(repeat' ((first|refine Nd ?_|refine Hv fun _h=>?_);conv=>whnf)))
  refine CallG.auto restrict18_body (fun _ => restrict18_spec l 0 hl ) ?_
  ((conv=>whnf);(repeat' ((first|refine Nd ?_|refine Hv fun _h=>?_);conv=>whnf)))
  refine CallG.auto same18_body (fun _ => same18_spec (restrictM l 0) l ) ?_
  ((conv=>whnf);(repeat' ((first|refine Nd ?_|refine Hv fun _h=>?_);conv=>whnf)))
  rw [single_eq]
  by_cases c : sizesM [v] l = 0 ∧ restrictM l 0 = l
  · refine Br.no (by rw [c.1, decide_eq_true c.2]; rfl) ?_
    ((conv=>whnf);(repeat' ((first|refine Nd ?_|refine Hv fun _h=>?_);conv=>whnf)))
    refine CallN.pureA operations18_body (operations18_spec l hl ) ?_
    ((conv=>whnf);(repeat' ((first|refine Nd ?_|refine Hv fun _h=>?_);conv=>whnf)))
    refine RM.i1 ?_
    · rw [decide_eq_true c.1, decide_eq_true c.2]
      rw [Bool.true_and, Bool.true_and, Bool.eq_iff_iff, decide_eq_true_eq, decide_eq_true_eq]
      omega
  · refine Br.yes ?_ ?_
    · by_cases c1 : sizesM [v] l = 0
      · have c2 : ¬ restrictM l 0 = l := fun q => c ⟨c1, q⟩
        rw [c1, decide_eq_false c2]; rfl
      · simp [c1]
    ((conv=>whnf);(repeat' ((first|refine Nd ?_|refine Hv fun _h=>?_);conv=>whnf)))
    refine RM.i1 ?_
    · by_cases c1 : sizesM [v] l = 0
      · have c2 : ¬ restrictM l 0 = l := fun q => c ⟨c1, q⟩
        rw [decide_eq_false c2]; simp
      · rw [decide_eq_false c1]; rfl
theorem single19_body : HasBody Tryz.prog 44 := hB Tryz.func44
end Go.Proofs
end

section
open Go Go.Am
namespace Go.Proofs
set_option maxRecDepth 20000
set_option maxHeartbeats 1000000
structure PrR where
  ops : List Evt
  first : List Nat
def mustR (ops : List Evt) : Nat := maskB (fun i => mustE (ops.getD i default)) ops.length
def skipR (ops : List Evt) : Nat := maskB (fun i => !canE (ops.getD i default)) ops.length
/-- The reference's search: what lies in its variable. -/
def srO (pr : PrR) (ends : List ByteArray) : O := .vr [evC pr.ops, intsC (firstL pr.first), .mpr 1, strsC ends]
theorem mustE_can {x : Evt} (h : canE x = true) : mustE x = x.ret := by
  unfold canE at h
  unfold mustE
  cases hr : x.ret with
  | false => rfl
  | true => rw [hr] at h; simpa using h
theorem mustE_not {x : Evt} (h : canE x = false) : mustE x = false := by
  unfold canE at h
  unfold mustE
  cases hr : x.ret with
  | false => rfl
  | true => rw [hr] at h; simpa using h
theorem wrapU {k : Nat} (h : k < 62) : IntKind.u64.wrap (k : Int) = k := by
  unfold IntKind.wrap
  simp only [show IntKind.u64.signed = false from rfl, show IntKind.u64.bits = 64 from rfl, Bool.false_and, Bool.false_eq_true, if_false]
  omega
theorem must19_spec (pr : PrR) (ends : List ByteArray) (seen : List (Nat × ByteArray)) (hn : pr.ops.length ≤ 20) : CSpec Tryz.prog 71 [.c (.ptr 0 0)] [srO pr ends, seenO seen] fun s H => s = .t [.inl (.int .i64 (mustR pr.ops)), .inl (.int .i64 (skipR pr.ops))] ∧ H = [srO pr ends, seenO seen] := by
  refine CSpec.rm ?_
  obtain ⟨ops, first⟩ := pr
  dsimp only at hn
  unfold srO
  dsimp only
  refine ov hΓ Tryz.func71 44 2 [.tmp 2, .tmp 3] Tryz.ntmps71 Tryz.results71 ?_
  ((conv=>whnf);(repeat' ((first|refine Nd ?_|refine Hv fun _h=>?_);conv=>whnf)))
  refine Lp.mkK hΓ (ι := Nat) [0] (fun k => [(6, .c (.int .i64 k)), (4, .c (.int .i64 (maskB (fun i => mustE (ops.getD i default)) k))), (5, .c (.int .i64 (maskB (fun i => !canE (ops.getD i default)) k)))]) (fun k => [.vr [evC ops, intsC (firstL first), .mpr 1, strsC ends], seenO seen]) (fun k => k ≤ ops.length) (fun k => ops.length - k) 0 (Nat.zero_le _) ?_ ?_
  · exact Mv.k0
  · intro k hk
    ((conv=>whnf);(repeat' ((first|refine Nd ?_|refine Hv fun _h=>?_);conv=>whnf)))
    refine Br.of (fun h1=>?_) (fun h1=>?_)<;>(try simp only [Int.toNat_natCast] at h1)<;>(conv=>whnf)
    · ((conv=>whnf);(repeat' ((first|refine Nd ?_|refine Hv fun _h=>?_);conv=>whnf)))
      have hk' : k < ops.length := by omega
      have e0 : (k : Int).toNat = k := by simp
      rw [e0]
      generalize hx : ops.getD k default = x
      have m1 : maskB (fun i => mustE (ops.getD i default)) (k + 1) = if mustE x = true then maskB (fun i => mustE (ops.getD i default)) k ||| 2 ^ k else maskB (fun i => mustE (ops.getD i default)) k := by rw [← hx]; rfl
      have m2 : maskB (fun i => !canE (ops.getD i default)) (k + 1) = if (!canE x) = true then maskB (fun i => !canE (ops.getD i default)) k ||| 2 ^ k else maskB (fun i => !canE (ops.getD i default)) k := by rw [← hx]; rfl
      have b1 := maskB_small (p := fun i => mustE (ops.getD i default)) (k := k) (by omega)
      have b2 := maskB_small (p := fun i => !canE (ops.getD i default)) (k := k) (by omega)
      refine CallN.pureA skipped_body (skipped_spec x ) ?_
      ((conv=>whnf);(repeat' ((first|refine Nd ?_|refine Hv fun _h=>?_);conv=>whnf)))
      cases hc : canE x with
      | false =>
        rw [hc] at m2
        rw [mustE_not hc] at m1
        refine Br.yes rfl ?_
        conv=>whnf
        refine Need.mk (by rw [wrapU (by omega)]; omega) ?_
        ((conv=>whnf);(repeat' ((first|refine Nd ?_|refine Hv fun _h=>?_);conv=>whnf)))
        rw [wrapU (by omega)]
        refine ⟨k + 1, by omega, by omega, ?_⟩
        rw [m1, m2, if_neg (by simp), if_pos (by rfl)]
        rw [bits_shl (by omega), bits_or (by omega) (Nat.pow_lt_pow_right (by omega) (by omega))]
        exact Mv.k0
      | true =>
        rw [hc] at m2
        rw [mustE_can hc] at m1
        refine Br.no rfl ?_
        ((conv=>whnf);(repeat' ((first|refine Nd ?_|refine Hv fun _h=>?_);conv=>whnf)))
        rw [e0, hx]
        cases hr : x.ret with
        | true =>
          rw [hr] at m1
          refine Br.yes rfl ?_
          conv=>whnf
          refine Need.mk (by rw [wrapU (by omega)]; omega) ?_
          ((conv=>whnf);(repeat' ((first|refine Nd ?_|refine Hv fun _h=>?_);conv=>whnf)))
          rw [wrapU (by omega)]
          refine ⟨k + 1, by omega, by omega, ?_⟩
          rw [m1, m2, if_pos rfl, if_neg (by simp)]
          rw [bits_shl (by omega), bits_or (by omega) (Nat.pow_lt_pow_right (by omega) (by omega))]
          exact Mv.k0
        | false =>
          rw [hr] at m1
          refine Br.no rfl ?_
          ((conv=>whnf);(repeat' ((first|refine Nd ?_|refine Hv fun _h=>?_);conv=>whnf)))
          refine ⟨k + 1, by omega, by omega, ?_⟩
          rw [m1, m2, if_neg (by simp), if_neg (by simp)]
          exact Mv.k0
    · ((conv=>whnf);(repeat' ((first|refine Nd ?_|refine Hv fun _h=>?_);conv=>whnf)))
      have : k = ops.length := by omega
      subst this
      refine ⟨_, _, ?_, rfl, rfl⟩
      exact RM.w0
theorem must19_body : HasBody Tryz.prog 71 := hB Tryz.func71
def prR (l : List Evt) : PrR := ⟨operationsM l, firstOf l (operationsM l)⟩
theorem start19_spec (l : List Evt) (hl : l.length ≤ 10000000) (hn : (operationsM l).length ≤ 20) : CSpec Tryz.prog 45 [.c (evC l)] [] fun s H => s = .c (.ptr 0 0) ∧ H = [srO (prR l) [], seenO []] := by
  refine CSpec.rm ?_
  refine ov hΓ Tryz.func45 64 0 [.tmp 2] Tryz.ntmps45 Tryz.results45 ?_
  ((conv=>whnf);(repeat' ((first|refine Nd ?_|refine Hv fun _h=>?_);conv=>whnf)))
  refine CallN.pureA operations18_body (operations18_spec l hl ) ?_
  ((conv=>whnf);(repeat' ((first|refine Nd ?_|refine Hv fun _h=>?_);conv=>whnf)))
  unfold prR srO
  dsimp only
  generalize hops : operationsM l = ops at *
  refine Lp.mkK hΓ (ι := Nat) [0] (fun j => [(4, .c (.int .i64 j)), (3, .c (.ptr 1 0))]) (fun j => [seenO [], .vr [evC ops, .sl 2 1 j j false, .mpr 0, .nils], .arr 3 1 j (intsG .i64 (firstL ((ops.take j).map (rowOf l ops))))]) (fun j => j ≤ ops.length) (fun j => ops.length - j) 0 (Nat.zero_le _) ?_ ?_
  · refine (Mv.reserveO 1 1 3 1 (intsG .i64 []) rfl rfl rfl rfl).trans ?_
    refine Mv.k2 ?_ ?_
    · intro k j _ hj
      have hj0 : j = 0 := by have : j < 1 := hj; omega
      subst hj0
      exact leF.of_eq (by simp [memK, lget, zeroL, getL, Z.toC])
    · exact fun i hi => absurd hi (Nat.not_lt_zero i)
  · intro j hj
    ((conv=>whnf);(repeat' ((first|refine Nd ?_|refine Hv fun _h=>?_);conv=>whnf)))
    refine Br.of (fun h4=>?_) (fun h4=>?_)<;>(try simp only [Int.toNat_natCast] at h4)<;>(conv=>whnf)
    · ((conv=>whnf);(repeat' ((first|refine Nd ?_|refine Hv fun _h=>?_);conv=>whnf)))
      have hj' : j < ops.length := by omega
      refine Lp.mkK hΓ (ι := Nat) [0, 3, 4] (fun i => [(6, .c (.int .i64 i)), (5, .c (.int .i64 (maskB (fun i => beforeM l (ops.getD i default).serial (ops.getD j default).serial) i)))]) (fun _ => [seenO [], .vr [evC ops, .sl 2 1 j j false, .mpr 0, .nils], .arr 3 1 j (intsG .i64 (firstL ((ops.take j).map (rowOf l ops))))]) (fun i => i ≤ ops.length) (fun i => ops.length - i) 0 (Nat.zero_le _) ?_ ?_
      · refine Mv.k1 ?_
        · exact fun i _ j _ => WC.imm rfl
      · intro i hi
        ((conv=>whnf);(repeat' ((first|refine Nd ?_|refine Hv fun _h=>?_);conv=>whnf)))
        refine Br.of (fun h5=>?_) (fun h5=>?_)<;>(try simp only [Int.toNat_natCast] at h5)<;>(conv=>whnf)
        · ((conv=>whnf);(repeat' ((first|refine Nd ?_|refine Hv fun _h=>?_);conv=>whnf)))
          have hi' : i < ops.length := by omega
          refine Dr.mk hΓ hMix (by kernel_rfl) ?_; conv=>whnf
          ((conv=>whnf);(repeat' ((first|refine Nd ?_|refine Hv fun _h=>?_);conv=>whnf)))
          have e1 : (i : Int).toNat = i := by simp
          have e2 : (j : Int).toNat = j := by simp
          rw [e1, e2]
          refine CallP.auto before18_body (before18_spec l (ops.getD i default).serial (ops.getD j default).serial ) ?_
          ((conv=>whnf);(repeat' ((first|refine Nd ?_|refine Hv fun _h=>?_);conv=>whnf)))
          have hmk : maskB (fun i => beforeM l (ops.getD i default).serial (ops.getD j default).serial) (i + 1) = if beforeM l (ops.getD i default).serial (ops.getD j default).serial = true then maskB (fun i => beforeM l (ops.getD i default).serial (ops.getD j default).serial) i ||| 2 ^ i else maskB (fun i => beforeM l (ops.getD i default).serial (ops.getD j default).serial) i := rfl
          have hms := maskB_small (p := fun i => beforeM l (ops.getD i default).serial (ops.getD j default).serial) (k := i) (by omega)
          cases hbf : beforeM l (ops.getD i default).serial (ops.getD j default).serial with
          | true =>
            rw [if_pos hbf] at hmk
            refine Br.yes rfl ?_
            conv=>whnf
            refine Need.mk (by rw [wrapU (by omega)]; omega) ?_
            ((conv=>whnf);(repeat' ((first|refine Nd ?_|refine Hv fun _h=>?_);conv=>whnf)))
            rw [wrapU (by omega), bits_shl (by omega), bits_or (by omega) (Nat.pow_lt_pow_right (by omega) (by omega)), ← hmk]
            refine ⟨i + 1, by omega, by omega, ?_⟩
            refine Mv.k1 ?_
            · exact fun i _ j _ => WC.imm rfl
          | false =>
            rw [if_neg (by rw [hbf]; simp)] at hmk
            refine Br.no rfl ?_
            ((conv=>whnf);(repeat' ((first|refine Nd ?_|refine Hv fun _h=>?_);conv=>whnf)))
            refine ⟨i + 1, by omega, by omega, ?_⟩
            rw [hmk]
            refine Mv.k1 ?_
            · exact fun i _ j _ => WC.imm rfl
        · ((conv=>whnf);(repeat' ((first|refine Nd ?_|refine Hv fun _h=>?_);conv=>whnf)))
          have hii : i = ops.length := by omega
          subst hii
          refine ⟨j + 1, by omega, by omega, ?_⟩
          have hrow : (ops.take (j + 1)).map (rowOf l ops) = (ops.take j).map (rowOf l ops) ++ [rowOf l ops (ops.getD j default)] := by
            rw [getD_snoc_take hj', List.map_append]; rfl
          rw [hrow]
          refine Mv.k1 ?_
          · intro i hi k hk
            have hlj : (firstL ((ops.take j).map (rowOf l ops))).length = j := by simp [firstL]; omega
            rw [firstL_snoc]
            exact WC.eq (intsG_snoc hlj.symm (by omega) hk) rfl
    · ((conv=>whnf);(repeat' ((first|refine Nd ?_|refine Hv fun _h=>?_);conv=>whnf)))
      have hjj : j = ops.length := by omega
      subst hjj
      rw [List.take_length]
      refine ⟨_, _, ?_, rfl, rfl⟩
      refine RM.fz 2 rfl (Nat.zero_le _) (fun _ _ _ _ => rfl) ?_
      refine RM.renW [1, 0] (by decide) ?_ ?_ <;> (first|exact wb0|refine wb1 ?_|refine wb2 ?_ ?_|refine wb3 ?_ ?_ ?_|refine wb4 ?_ ?_ ?_ ?_)
      · exact WC.fz rfl (by simp [firstL, firstOf]) (fun i hi j hj => leF.of_eq rfl) (fun q => by cases q)
theorem start19_body : HasBody Tryz.prog 45 := hB Tryz.func45
end Go.Proofs
end
