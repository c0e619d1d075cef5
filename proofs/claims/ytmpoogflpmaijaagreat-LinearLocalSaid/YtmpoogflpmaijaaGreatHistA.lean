/- Part of the proofs of laws of this seat: contracts and plain lemmas; no condition is added to a statement. -/
import Derived.Test.YtmpoogflpmaijaaGreatEnv
import Derived.Test.YtmpoogflpmaijaaGreatMods
set_option linter.unusedSimpArgs false
set_option linter.unusedVariables false
section
open Go Go.Am
namespace Go.Proofs

/-- An event of a history. -/
structure Evt where
  ret : Bool
  queue : Int
  serial : Int
  kind : Int
  block : Int
  data : ByteArray
  err : Int
  rdata : ByteArray
  deriving DecidableEq

instance : Inhabited Evt := ⟨⟨false, 0, 0, 0, 0, ByteArray.empty, 0, ByteArray.empty⟩⟩

def Evt.cell (e : Evt) : Nat → C
  | 0 => .bool e.ret
  | 1 => .int .i64 e.queue
  | 2 => .int .i64 e.serial
  | 3 => .int .i64 e.kind
  | 4 => .int .i64 e.block
  | 5 => .str e.data
  | 6 => .int .i64 e.err
  | 7 => .str e.rdata
  | _ => .junk
def Evt.cells (e : Evt) : List C := [.bool e.ret, .int .i64 e.queue, .int .i64 e.serial, .int .i64 e.kind, .int .i64 e.block, .str e.data, .int .i64 e.err, .str e.rdata]
def evG (l : List Evt) : Nat → Nat → C := rowG Evt.cell l
def evC (l : List Evt) : C := .isl 8 l.length (evG l) false

/-- A map of whole numbers to whole numbers, in the order of its keys' coming. -/
abbrev MapI := List (Int × Int)
def MapI.has (m : MapI) (n : Int) : Bool := decide (n ∈ m.map Prod.fst)
def MapI.get (m : MapI) (n : Int) : Int := (m.lookup n).getD 0
def keyI : Key → Int
  | .c (.i _ n) => n
  | _ => 0
@[simp] theorem keyI_i {q : IntKind} {n : Int} : keyI (.c (.i q n)) = n := rfl
def MapI.o (m : MapI) : O := .mp (.c (some .i64)) [.i .i64] false (m.map fun p => .c (.i .i64 p.1)) fun k _ => .int .i64 (m.get (keyI k))

def placesM (l : List Evt) (r : Bool) : Nat → MapI
  | 0 => []
  | k + 1 => if (placesM l r k).has (l.getD k default).serial = false ∧ (l.getD k default).ret = r then placesM l r k ++ [((l.getD k default).serial, (k : Int))] else placesM l r k

theorem memK_i {m : MapI} {n : Int} : memK (m.map fun p => Key.c (.i .i64 p.1)) (.c (.i .i64 n)) = m.has n := by
  unfold memK MapI.has
  congr 1
  simp only [List.mem_map, Key.c.injEq, KC.i.injEq, true_and, eq_iff_iff]
theorem updK_new {m : MapI} {n v : Int} (h : m.has n = false) : updK (m.map fun p => Key.c (.i .i64 p.1)) (.c (.i .i64 n)) = (m ++ [(n, v)]).map fun p => Key.c (.i .i64 p.1) := by
  unfold updK
  rw [memK_i, h]
  simp
theorem get_new {m : MapI} {n v : Int} (h : m.has n = false) (x : Int) : MapI.get (m ++ [(n, v)]) x = if x = n then v else m.get x := by
  unfold MapI.get
  rw [List.lookup_append]
  by_cases c : x = n
  · subst c
    have : List.lookup x m = none := by
      rw [List.lookup_eq_none_iff]
      intro p hp
      simp only [MapI.has, decide_eq_false_iff_not, List.mem_map, not_exists, not_and] at h
      have := h p hp
      simpa using fun e => this e.symm
    simp [this]
  · have : (x == n) = false := by simpa using c
    simp [List.lookup, this, c]

theorem key_i {q : IntKind} {k : Key} (h : k.sh = .c (some q)) : ∃ n, k = .c (.i q n) := by
  cases k with
  | a l => cases h
  | c x => cases x with
    | s b => cases h
    | i q' n => cases h; exact ⟨n, rfl⟩
theorem updV_new {m : MapI} {n v x : Int} (h : m.has n = false) : updV (fun k (_ : Nat) => C.int .i64 (m.get (keyI k))) (.c (.i .i64 n)) (lget [C.int .i64 v]) (.c (.i .i64 x)) 0 = C.int .i64 (MapI.get (m ++ [(n, v)]) x) := by
  rw [get_new h]
  simp only [updV, Key.c.injEq, KC.i.injEq, true_and]
  by_cases c : x = n
  · rw [if_pos c, if_pos c]; rfl
  · rw [if_neg c, if_neg c]; rfl
theorem places_spec (l : List Evt) (r : Bool) : CSpec Tryz.prog 57 [.c (evC l), .c (.bool r)] [] fun s H => s = .c (.mpr 0) ∧ H = [(placesM l r l.length).o] := by
  refine CSpec.rm ?_
  refine ov hΓ Tryz.func57 39 0 [.tmp 4] Tryz.ntmps57 Tryz.results57 ?_
  ((conv=>whnf);(repeat' ((first|refine Nd ?_|refine Hv fun _h=>?_);conv=>whnf)))
  refine Lp.mkK hΓ (ι := Nat) [11, 12, 5, 1] (fun k => [(13, .c (.int .i64 k))]) (fun k => [(placesM l r k).o]) (fun k => k ≤ l.length) (fun k => l.length - k) 0 (Nat.zero_le _) ?_ ?_
  · refine Mv.k1 ?_
    intro x j _ hj
    have : j = 0 := by simpa using hj
    subst this
    exact leF.refl
  · intro k hk
    ((conv=>whnf);(repeat' ((first|refine Nd ?_|refine Hv fun _h=>?_);conv=>whnf)))
    refine Br.of (fun h1=>?_) (fun h1=>?_)<;>(try simp only [Int.toNat_natCast] at h1)<;>(conv=>whnf)
    · ((conv=>whnf);(repeat' ((first|refine Nd ?_|refine Hv fun _h=>?_);conv=>whnf)))
      have e0 : (k : Int).toNat = k := by simp
      rw [e0, memK_i]
      (first|refine Br.od (fun h2=>?_) (fun h2=>?_)|refine Br.mk (fun h2=>?_) (fun h2=>?_)<;>simp [-List.length_eq_zero_iff,-List.getD_eq_getElem?_getD] at h2)<;>(try simp only [Int.toNat_natCast] at h2)<;>(conv=>whnf)
      · ((conv=>whnf);(repeat' ((first|refine Nd ?_|refine Hv fun _h=>?_);conv=>whnf)))
        refine ⟨k + 1, by omega, by omega, ?_⟩
        have e1 : placesM l r (k + 1) = placesM l r k ++ [((l.getD k default).serial, (k : Int))] := by
          rw [placesM, if_pos h2]
        rw [e1]
        refine Mv.k1 ?_
        refine WO.mp rfl rfl rfl (updK_new h2.1) ?_
        intro x j hx hj
        have : j = 0 := by simpa using hj
        subst this
        obtain ⟨n, rfl⟩ := key_i hx
        exact leF.of_eq (updV_new h2.1)
      · ((conv=>whnf);(repeat' ((first|refine Nd ?_|refine Hv fun _h=>?_);conv=>whnf)))
        refine ⟨k + 1, by omega, by omega, ?_⟩
        have e1 : placesM l r (k + 1) = placesM l r k := by
          rw [placesM, if_neg (by simpa using h2)]
        rw [e1]
        exact Mv.k0
    · ((conv=>whnf);(repeat' ((first|refine Nd ?_|refine Hv fun _h=>?_);conv=>whnf)))
      have : k = l.length := by omega
      subst this
      exact ⟨_, _, RM.refl, rfl, rfl⟩
theorem places_body : HasBody Tryz.prog 57 := hB Tryz.func57

def placesF (l : List Evt) (r : Bool) : MapI := placesM l r l.length
def beforeM (l : List Evt) (a b : Int) : Bool := (placesF l true).has a && (placesF l false).has b && decide ((placesF l true).get a < (placesF l false).get b)

theorem before_spec (l : List Evt) (a b : Int) : PSpec Tryz.prog 42 [.c (evC l), .c (.int .i64 a), .c (.int .i64 b)] (.c (.bool (beforeM l a b))) := by
  refine PSpec.rm ?_
  refine ov hΓ Tryz.func42 34 0 [.tmp 6] Tryz.ntmps42 Tryz.results42 ?_
  ((conv=>whnf);(repeat' ((first|refine Nd ?_|refine Hv fun _h=>?_);conv=>whnf)))
  refine CallN.autoQ [] places_body (places_spec l true) ?_; conv=>whnf
  ((conv=>whnf);(repeat' ((first|refine Nd ?_|refine Hv fun _h=>?_);conv=>whnf)))
  refine CallN.autoQ [] places_body (places_spec l false) ?_; conv=>whnf
  ((conv=>whnf);(repeat' ((first|refine Nd ?_|refine Hv fun _h=>?_);conv=>whnf)))
  refine RM.i1 ?_
  rw [memK_i, memK_i]
  unfold beforeM placesF keyI
  cases (placesM l true l.length).has a <;> cases (placesM l false l.length).has b <;> rfl
theorem before_body : HasBody Tryz.prog 42 := hB Tryz.func42

def begunTo (l : List Evt) : Nat → List Evt
  | 0 => []
  | k + 1 => if (l.getD k default).ret = false ∧ (placesF l false).get (l.getD k default).serial = k then begunTo l k ++ [l.getD k default] else begunTo l k
def begunM (l : List Evt) : List Evt := begunTo l l.length
theorem begunTo_len (l : List Evt) : ∀ k, (begunTo l k).length ≤ k
  | 0 => by simp [begunTo]
  | k + 1 => by
    have := begunTo_len l k
    simp only [begunTo]
    split
    · simp; omega
    · omega
theorem ev_snoc {l : List Evt} {n : Nat} {x : Evt} {t : List C} (hn : n = l.length) {i j : Nat} (hi : i < l.length + 1) (hj : j < 8) : appG (evG l) n (flatG 8 (C.bool x.ret :: C.int .i64 x.queue :: C.int .i64 x.serial :: C.int .i64 x.kind :: C.int .i64 x.block :: C.str x.data :: C.int .i64 x.err :: C.str x.rdata :: t)) i j = evG (l ++ [x]) i j :=
  rowG_snoc (f := Evt.cell) hn (fun j hj => by
    match j with
    | 0 => rfl
    | 1 => rfl
    | 2 => rfl
    | 3 => rfl
    | 4 => rfl
    | 5 => rfl
    | 6 => rfl
    | 7 => rfl
    | j + 8 => omega) hi hj
theorem evCell_imm (e : Evt) (j : Nat) : (e.cell j).imm = true := by
  unfold Evt.cell
  split <;> rfl

theorem begun_spec (l : List Evt) (hl : l.length ≤ 10000000) : CSpec Tryz.prog 58 [.c (evC l)] [] fun s H => s = .c (.sl 0 8 (begunM l).length (begunM l).length false) ∧ H = [.arr 52 8 (begunM l).length (evG (begunM l))] := by
  refine CSpec.rm ?_
  refine ov hΓ Tryz.func58 33 0 [.tmp 2] Tryz.ntmps58 Tryz.results58 ?_
  ((conv=>whnf);(repeat' ((first|refine Nd ?_|refine Hv fun _h=>?_);conv=>whnf)))
  refine CallN.autoQ [] places_body (places_spec l false) ?_; conv=>whnf
  ((conv=>whnf);(repeat' ((first|refine Nd ?_|refine Hv fun _h=>?_);conv=>whnf)))
  refine Lp.reserve 52 8 (evG []) 3 rfl ?_
  refine Lp.mkK hΓ (ι := Nat) [9, 10, 4] (fun k => [(11, .c (.int .i64 k)), (3, .c (.sl 1 8 (begunTo l k).length (begunTo l k).length false))]) (fun k => [(placesF l false).o, .arr 52 8 (begunTo l k).length (evG (begunTo l k))]) (fun k => k ≤ l.length) (fun k => l.length - k) 0 (Nat.zero_le _) ?_ ?_
  · refine Mv.k1 ?_
    intro i hi; omega
  · intro k hk
    have hbl := begunTo_len l k
    ((conv=>whnf);(repeat' ((first|refine Nd ?_|refine Hv fun _h=>?_);conv=>whnf)))
    refine Br.of (fun h1=>?_) (fun h1=>?_)<;>(try simp only [Int.toNat_natCast] at h1)<;>(conv=>whnf)
    · ((conv=>whnf);(repeat' ((first|refine Nd ?_|refine Hv fun _h=>?_);conv=>whnf)))
      have e0 : (k : Int).toNat = k := by simp
      rw [e0]
      (first|refine Br.od (fun h2=>?_) (fun h2=>?_)|refine Br.mk (fun h2=>?_) (fun h2=>?_)<;>simp [-List.length_eq_zero_iff,-List.getD_eq_getElem?_getD] at h2)<;>(try simp only [Int.toNat_natCast] at h2)<;>(conv=>whnf)
      · ((conv=>whnf);(repeat' ((first|refine Nd ?_|refine Hv fun _h=>?_);conv=>whnf)))
        refine ⟨k + 1, by omega, by omega, ?_⟩
        have e1 : begunTo l (k + 1) = begunTo l k ++ [l.getD k default] := by
          rw [begunTo, if_pos h2]
        rw [e1]
        refine Mv.k1 ?_
        intro i hi j hj
        exact WC.eq (ev_snoc rfl (by simpa using hi) hj) (evCell_imm _ _)
      · ((conv=>whnf);(repeat' ((first|refine Nd ?_|refine Hv fun _h=>?_);conv=>whnf)))
        refine ⟨k + 1, by omega, by omega, ?_⟩
        have e1 : begunTo l (k + 1) = begunTo l k := by
          rw [begunTo, if_neg (by simpa using h2)]
        rw [e1]
        refine Mv.mkW ?_ ?_ leN <;> (first|exact wb0|refine wb1 ?_|refine wb2 ?_ ?_|refine wb3 ?_ ?_ ?_|refine wb4 ?_ ?_ ?_ ?_)
        all_goals (intro i _ j _; exact WC.imm (evCell_imm _ _))
    · ((conv=>whnf);(repeat' ((first|refine Nd ?_|refine Hv fun _h=>?_);conv=>whnf)))
      have : k = l.length := by omega
      subst this
      refine ⟨_, _, ?_, rfl, rfl⟩
      refine RM.renW [1] (by decide) ?_ ?_ <;> (first|exact wb0|refine wb1 ?_|refine wb2 ?_ ?_|refine wb3 ?_ ?_ ?_|refine wb4 ?_ ?_ ?_ ?_)
      all_goals (intro i _ j _; exact WC.imm (evCell_imm _ _))
theorem begun_body : HasBody Tryz.prog 58 := hB Tryz.func58
end Go.Proofs
end

section
open Go Go.Am
namespace Go.Proofs
theorem lookup_snoc_none {m : MapI} {n v : Int} (h : m.has n = false) (x : Int) : MapI.has (m ++ [(n, v)]) x = (m.has x || decide (x = n)) := by
  simp only [MapI.has, List.map_append, List.mem_append, List.map_cons, List.map_nil, List.mem_singleton, Bool.decide_or]
theorem places_range (l : List Evt) (r : Bool) : ∀ k, ∀ n, (placesM l r k).has n = true → 0 ≤ (placesM l r k).get n ∧ (placesM l r k).get n < k
  | 0, n, h => by simp [placesM, MapI.has] at h
  | k + 1, n, h => by
    simp only [placesM] at h ⊢
    split at h
    · rename_i hc
      rw [if_pos hc, get_new hc.1]
      by_cases c : n = (l.getD k default).serial
      · rw [if_pos c]; omega
      · rw [if_neg c]
        rw [lookup_snoc_none hc.1] at h
        rw [decide_eq_false c, Bool.or_false] at h
        have := places_range l r k n h
        omega
    · rename_i hc
      rw [if_neg hc]
      have := places_range l r k n h
      omega
theorem placesF_range {l : List Evt} {r : Bool} {n : Int} (h : (placesF l r).has n = true) : 0 ≤ (placesF l r).get n ∧ (placesF l r).get n < l.length := places_range l r l.length n h

theorem ev_re (σ : Nat → Nat) (e : Evt) (j : Nat) : reC σ (e.cell j) = e.cell j := by
  unfold Evt.cell
  split <;> rfl
def opOf (l : List Evt) (e : Evt) : Evt :=
  if (placesF l true).has e.serial = true then { e with ret := true, err := (l.getD ((placesF l true).get e.serial).toNat default).err, rdata := (l.getD ((placesF l true).get e.serial).toNat default).rdata } else e
def operationsM (l : List Evt) : List Evt := (begunM l).map (opOf l)
def evK (f : Evt → Evt) (l : List Evt) (k : Nat) : Nat → Nat → C := fun i j => Evt.cell (if i < k then f (l.getD i default) else l.getD i default) j

theorem evK_set {f : Evt → Evt} {b : List Evt} {k : Nat} {er : Int} {rd : ByteArray} (hk : k < b.length) (hf : f (b.getD k default) = { b.getD k default with ret := true, err := er, rdata := rd }) (i j : Nat) (hj : j < 8) :
    updG (updG (evK f b k) k 0 [.bool true]) k 6 [.int .i64 er, .str rd] i j = evK f b (k + 1) i j := by
  by_cases c : i = k
  · subst c
    match j with
    | 0 => simp [updG, evK, lget, getL, hf, Evt.cell, -List.getD_eq_getElem?_getD]
    | 1 => simp [updG, evK, lget, getL, hf, Evt.cell, -List.getD_eq_getElem?_getD]
    | 2 => simp [updG, evK, lget, getL, hf, Evt.cell, -List.getD_eq_getElem?_getD]
    | 3 => simp [updG, evK, lget, getL, hf, Evt.cell, -List.getD_eq_getElem?_getD]
    | 4 => simp [updG, evK, lget, getL, hf, Evt.cell, -List.getD_eq_getElem?_getD]
    | 5 => simp [updG, evK, lget, getL, hf, Evt.cell, -List.getD_eq_getElem?_getD]
    | 6 => simp [updG, evK, lget, getL, hf, Evt.cell, -List.getD_eq_getElem?_getD]
    | 7 => simp [updG, evK, lget, getL, hf, Evt.cell, -List.getD_eq_getElem?_getD]
    | j + 8 => omega
  · have e1 : (i < k + 1) = (i < k) := by
      apply propext; omega
    simp [updG, evK, c, e1]
theorem evK_skip {f : Evt → Evt} {b : List Evt} {k : Nat} (hf : f (b.getD k default) = b.getD k default) (i j : Nat) : evK f b k i j = evK f b (k + 1) i j := by
  by_cases c : i = k
  · subst c
    simp only [evK]
    rw [if_neg (by omega), if_pos (by omega), hf]
  · have e1 : (i < k + 1) = (i < k) := by
      apply propext; omega
    simp [evK, e1]
theorem operations_spec (l : List Evt) (hl : l.length ≤ 10000000) : CSpec Tryz.prog 32 [.c (evC l)] [] fun s H => s = .c (.sl 0 8 (begunM l).length (begunM l).length false) ∧ H = [.arr 52 8 (begunM l).length (evG (operationsM l))] := by
  have hbl : (begunM l).length ≤ l.length := begunTo_len l l.length
  refine CSpec.rm ?_
  refine ov hΓ Tryz.func32 43 0 [.tmp 2] Tryz.ntmps32 Tryz.results32 ?_
  ((conv=>whnf);(repeat' ((first|refine Nd ?_|refine Hv fun _h=>?_);conv=>whnf)))
  refine CallN.autoQ [] places_body (places_spec l true) ?_; conv=>whnf
  ((conv=>whnf);(repeat' ((first|refine Nd ?_|refine Hv fun _h=>?_);conv=>whnf)))
  refine CallN.autoQ [] begun_body (begun_spec l hl) ?_; conv=>whnf
  ((conv=>whnf);(repeat' ((first|refine Nd ?_|refine Hv fun _h=>?_);conv=>whnf)))
  generalize hb : begunM l = b at *
  refine Lp.mkK hΓ (ι := Nat) [0, 13, 14, 3, 4] (fun k => [(15, .c (.int .i64 k))]) (fun k => [(placesF l true).o, .arr 52 8 b.length (evK (opOf l) b k)]) (fun k => k ≤ b.length) (fun k => b.length - k) 0 (Nat.zero_le _) ?_ ?_
  · refine Mv.k1 ?_
    intro i hi j hj
    exact WC.eq ((ev_re _ _ _).trans (by simp [evK])) (evCell_imm _ _)
  · intro k hk
    ((conv=>whnf);(repeat' ((first|refine Nd ?_|refine Hv fun _h=>?_);conv=>whnf)))
    refine Br.of (fun h1=>?_) (fun h1=>?_)<;>(try simp only [Int.toNat_natCast] at h1)<;>(conv=>whnf)
    · ((conv=>whnf);(repeat' ((first|refine Nd ?_|refine Hv fun _h=>?_);conv=>whnf)))
      have e0 : (k : Int).toNat = k := by simp
      refine Frc.mk (.a (b.getD k default).cells) ?_ ?_
      · simp [gets, evK, Evt.cell, Evt.cells]
      ((conv=>whnf);(repeat' ((first|refine Nd ?_|refine Hv fun _h=>?_);conv=>whnf)))
      rw [memK_i]
      refine Br.of (fun h2=>?_) (fun h2=>?_)<;>(try simp only [Int.toNat_natCast] at h2)<;>(conv=>whnf)
      · have hr := placesF_range h2
        ((conv=>whnf);(repeat' ((first|refine Nd ?_|refine Hv fun _h=>?_);conv=>whnf)))
        refine ⟨k + 1, by omega, by omega, ?_⟩
        refine Mv.k1 ?_
        intro i hi j hj
        simp only [Int.toNat_natCast]
        exact WC.eq (evK_set (by omega) (by unfold opOf; rw [if_pos h2]; rfl) i j hj) (evCell_imm _ _)
      · ((conv=>whnf);(repeat' ((first|refine Nd ?_|refine Hv fun _h=>?_);conv=>whnf)))
        refine ⟨k + 1, by omega, by omega, ?_⟩
        refine Mv.k1 ?_
        intro i hi j hj
        exact WC.eq (evK_skip (by unfold opOf; rw [if_neg (by rw [h2]; simp)]) i j) (evCell_imm _ _)
    · ((conv=>whnf);(repeat' ((first|refine Nd ?_|refine Hv fun _h=>?_);conv=>whnf)))
      have : k = b.length := by omega
      subst this
      refine ⟨_, _, ?_, rfl, rfl⟩
      refine RM.renW [1] (by decide) ?_ ?_ <;> (first|exact wb0|refine wb1 ?_|refine wb2 ?_ ?_|refine wb3 ?_ ?_ ?_|refine wb4 ?_ ?_ ?_ ?_)
      intro i hi j hj
      refine WC.eq ?_ (evCell_imm _ _)
      simp [evK, hi, operationsM, hb, evG, rowG, List.getD]
theorem operations_body : HasBody Tryz.prog 32 := hB Tryz.func32
end Go.Proofs
end

section
open Go Go.Am
namespace Go.Proofs
theorem places_keep {l : List Evt} {r : Bool} {n : Int} {k : Nat} (h : (placesM l r k).has n = true) : ∀ d, (placesM l r (k + d)).has n = true ∧ (placesM l r (k + d)).get n = (placesM l r k).get n
  | 0 => ⟨h, rfl⟩
  | d + 1 => by
    obtain ⟨h1, h2⟩ := places_keep h d
    show (placesM l r (k + d + 1)).has n = true ∧ (placesM l r (k + d + 1)).get n = _
    simp only [placesM]
    split
    · rename_i hc
      rw [lookup_snoc_none hc.1, get_new hc.1, h1]
      refine ⟨rfl, ?_⟩
      rw [if_neg, h2]
      intro e
      rw [← e, h1] at hc
      cases hc.1
    · exact ⟨h1, h2⟩
/-- Where the first event with this number is; -1 if there is none. -/
def firstM (l : List Evt) (r : Bool) (s : Int) : Int := if (placesF l r).has s = true then (placesF l r).get s else -1
theorem first_at {l : List Evt} {r : Bool} {s : Int} {k : Nat} (hk : k < l.length) (h0 : (placesM l r k).has s = false) (h1 : (l.getD k default).ret = r) (h2 : (l.getD k default).serial = s) : firstM l r s = k := by
  have e : placesM l r (k + 1) = placesM l r k ++ [(s, (k : Int))] := by
    rw [placesM, h2, if_pos ⟨h0, h1⟩]
  have hh : (placesM l r (k + 1)).has s = true := by rw [e, lookup_snoc_none h0]; simp
  obtain ⟨q1, q2⟩ := places_keep hh (l.length - (k + 1))
  rw [show k + 1 + (l.length - (k + 1)) = l.length by omega] at q1 q2
  unfold firstM placesF
  rw [if_pos q1, q2, e, get_new h0, if_pos rfl]
theorem first_step {l : List Evt} {r : Bool} {s : Int} {k : Nat} (h0 : (placesM l r k).has s = false) (h : ¬((l.getD k default).ret = r ∧ (l.getD k default).serial = s)) : (placesM l r (k + 1)).has s = false := by
  simp only [placesM]
  split
  · rename_i hc
    rw [lookup_snoc_none hc.1, h0]
    simp only [Bool.false_or, decide_eq_false_iff_not]
    exact fun e => h ⟨hc.2, e.symm⟩
  · exact h0
theorem first_none {l : List Evt} {r : Bool} {s : Int} (h0 : (placesM l r l.length).has s = false) : firstM l r s = -1 := by
  unfold firstM placesF
  rw [if_neg (by rw [h0]; simp)]
theorem invoked_spec (l : List Evt) (s : Int) : PSpec Tryz.prog 66 [.c (evC l), .c (.int .i64 s)] (.c (.int .i64 (firstM l false s))) := by
  refine PSpec.rm ?_
  refine ov hΓ Tryz.func66 28 0 [.tmp 4] Tryz.ntmps66 Tryz.results66 ?_
  ((conv=>whnf);(repeat' ((first|refine Nd ?_|refine Hv fun _h=>?_);conv=>whnf)))
  refine Lp.mkK hΓ (ι := Nat) [0, 1] (fun k => [(5, .c (.int .i64 k))]) (fun k => []) (fun k => k ≤ l.length ∧ (placesM l false k).has s = false) (fun k => l.length - k) 0 ⟨Nat.zero_le _, rfl⟩ ?_ ?_
  · exact Mv.k0
  · intro k ⟨hk, h0⟩
    ((conv=>whnf);(repeat' ((first|refine Nd ?_|refine Hv fun _h=>?_);conv=>whnf)))
    refine Br.of (fun h1=>?_) (fun h1=>?_)<;>(try simp only [Int.toNat_natCast] at h1)<;>(conv=>whnf)
    · ((conv=>whnf);(repeat' ((first|refine Nd ?_|refine Hv fun _h=>?_);conv=>whnf)))
      have e0 : (k : Int).toNat = k := by simp
      rw [e0]
      (first|refine Br.od (fun h2=>?_) (fun h2=>?_)|refine Br.mk (fun h2=>?_) (fun h2=>?_)<;>simp [-List.length_eq_zero_iff,-List.getD_eq_getElem?_getD] at h2)<;>(try simp only [Int.toNat_natCast] at h2)<;>(conv=>whnf)
      · ((conv=>whnf);(repeat' ((first|refine Nd ?_|refine Hv fun _h=>?_);conv=>whnf)))
        rw [first_at (by omega) h0 h2.1 h2.2]
        exact RM.i0
      · ((conv=>whnf);(repeat' ((first|refine Nd ?_|refine Hv fun _h=>?_);conv=>whnf)))
        refine ⟨k + 1, ⟨by omega, first_step h0 (by simpa using h2)⟩, by omega, ?_⟩
        exact Mv.k0
    · ((conv=>whnf);(repeat' ((first|refine Nd ?_|refine Hv fun _h=>?_);conv=>whnf)))
      have : k = l.length := by omega
      subst this
      rw [first_none h0]
      exact RM.i0
theorem invoked_body : HasBody Tryz.prog 66 := hB Tryz.func66
theorem returned_spec (l : List Evt) (s : Int) : PSpec Tryz.prog 67 [.c (evC l), .c (.int .i64 s)] (.c (.int .i64 (firstM l true s))) := by
  refine PSpec.rm ?_
  refine ov hΓ Tryz.func67 27 0 [.tmp 4] Tryz.ntmps67 Tryz.results67 ?_
  ((conv=>whnf);(repeat' ((first|refine Nd ?_|refine Hv fun _h=>?_);conv=>whnf)))
  refine Lp.mkK hΓ (ι := Nat) [0, 1] (fun k => [(5, .c (.int .i64 k))]) (fun k => []) (fun k => k ≤ l.length ∧ (placesM l true k).has s = false) (fun k => l.length - k) 0 ⟨Nat.zero_le _, rfl⟩ ?_ ?_
  · exact Mv.k0
  · intro k ⟨hk, h0⟩
    ((conv=>whnf);(repeat' ((first|refine Nd ?_|refine Hv fun _h=>?_);conv=>whnf)))
    refine Br.of (fun h1=>?_) (fun h1=>?_)<;>(try simp only [Int.toNat_natCast] at h1)<;>(conv=>whnf)
    · ((conv=>whnf);(repeat' ((first|refine Nd ?_|refine Hv fun _h=>?_);conv=>whnf)))
      have e0 : (k : Int).toNat = k := by simp
      rw [e0]
      (first|refine Br.od (fun h2=>?_) (fun h2=>?_)|refine Br.mk (fun h2=>?_) (fun h2=>?_)<;>simp [-List.length_eq_zero_iff,-List.getD_eq_getElem?_getD] at h2)<;>(try simp only [Int.toNat_natCast] at h2)<;>(conv=>whnf)
      · ((conv=>whnf);(repeat' ((first|refine Nd ?_|refine Hv fun _h=>?_);conv=>whnf)))
        rw [first_at (by omega) h0 h2.1 h2.2]
        exact RM.i0
      · ((conv=>whnf);(repeat' ((first|refine Nd ?_|refine Hv fun _h=>?_);conv=>whnf)))
        refine ⟨k + 1, ⟨by omega, first_step h0 (by simpa using h2)⟩, by omega, ?_⟩
        exact Mv.k0
    · ((conv=>whnf);(repeat' ((first|refine Nd ?_|refine Hv fun _h=>?_);conv=>whnf)))
      have : k = l.length := by omega
      subst this
      rw [first_none h0]
      exact RM.i0
theorem returned_body : HasBody Tryz.prog 67 := hB Tryz.func67
theorem first_neg (l : List Evt) (r : Bool) (s : Int) : decide (0 ≤ firstM l r s) = (placesF l r).has s := by
  unfold firstM
  by_cases h : (placesF l r).has s = true
  · have := placesF_range h
    rw [if_pos h, h]; simpa using this.1
  · rw [if_neg h]; simp at h; rw [h]; rfl
theorem before18_spec (l : List Evt) (a b : Int) : PSpec Tryz.prog 41 [.c (evC l), .c (.int .i64 a), .c (.int .i64 b)] (.c (.bool (beforeM l a b))) := by
  refine PSpec.rm ?_
  refine ov hΓ Tryz.func41 26 0 [.tmp 6] Tryz.ntmps41 Tryz.results41 ?_
  ((conv=>whnf);(repeat' ((first|refine Nd ?_|refine Hv fun _h=>?_);conv=>whnf)))
  refine CallN.pureA returned_body (returned_spec l a ) ?_
  ((conv=>whnf);(repeat' ((first|refine Nd ?_|refine Hv fun _h=>?_);conv=>whnf)))
  refine CallN.pureA invoked_body (invoked_spec l b ) ?_
  ((conv=>whnf);(repeat' ((first|refine Nd ?_|refine Hv fun _h=>?_);conv=>whnf)))
  refine RM.i1 ?_
  simp only [ge_iff_le]
  rw [first_neg, first_neg]
  unfold beforeM
  cases ha : (placesF l true).has a <;> cases hb : (placesF l false).has b <;> first | rfl | skip
  unfold firstM
  rw [if_pos ha, if_pos hb]
  rfl
theorem before18_body : HasBody Tryz.prog 41 := hB Tryz.func41

/-- Does a result fit a command? -/
def fitsM (kind err : Int) (rdata : ByteArray) : Bool :=
  if err = 0 then (if kind = 1 then decide (rdata.size = 16) else decide (rdata = ByteArray.empty))
  else if err = 7 ∨ err = 1 ∨ err = 2 ∨ err = 3 ∨ err = 12 then decide (rdata = ByteArray.empty) else false
theorem fits_spec (kind block err : Int) (data rdata : ByteArray) : PSpec Tryz.prog 76 [.a [.int .i64 kind, .int .i64 block, .str data], .a [.int .i64 err, .str rdata]] (.c (.bool (fitsM kind err rdata))) := by
  refine PSpec.rm ?_
  refine ov hΓ Tryz.func76 25 0 [.tmp 4] Tryz.ntmps76 Tryz.results76 ?_
  ((conv=>whnf);(repeat' ((first|refine Nd ?_|refine Hv fun _h=>?_);conv=>whnf)))
  (first|refine Br.od (fun h0=>?_) (fun h0=>?_)|refine Br.mk (fun h0=>?_) (fun h0=>?_)<;>simp [-List.length_eq_zero_iff,-List.getD_eq_getElem?_getD] at h0)<;>(try simp only [Int.toNat_natCast] at h0)<;>(conv=>whnf)
  · ((conv=>whnf);(repeat' ((first|refine Nd ?_|refine Hv fun _h=>?_);conv=>whnf)))
    (first|refine Br.od (fun h1=>?_) (fun h1=>?_)|refine Br.mk (fun h1=>?_) (fun h1=>?_)<;>simp [-List.length_eq_zero_iff,-List.getD_eq_getElem?_getD] at h1)<;>(try simp only [Int.toNat_natCast] at h1)<;>(conv=>whnf)
    · ((conv=>whnf);(repeat' ((first|refine Nd ?_|refine Hv fun _h=>?_);conv=>whnf)))
      refine RM.i1 ?_
      unfold fitsM
      rw [if_pos h0, if_pos h1, Bool.eq_iff_iff]
      simp
      omega
    · ((conv=>whnf);(repeat' ((first|refine Nd ?_|refine Hv fun _h=>?_);conv=>whnf)))
      refine RM.i1 ?_
      simp [fitsM, h0, h1]
      rfl
  · ((conv=>whnf);(repeat' ((first|refine Nd ?_|refine Hv fun _h=>?_);conv=>whnf)))
    (first|refine Br.od (fun h1=>?_) (fun h1=>?_)|refine Br.mk (fun h1=>?_) (fun h1=>?_)<;>simp [-List.length_eq_zero_iff,-List.getD_eq_getElem?_getD] at h1)<;>(try simp only [Int.toNat_natCast] at h1)<;>(conv=>whnf)
    · ((conv=>whnf);(repeat' ((first|refine Nd ?_|refine Hv fun _h=>?_);conv=>whnf)))
      refine Br.yes (by simp [h1]) ?_
      ((conv=>whnf);(repeat' ((first|refine Nd ?_|refine Hv fun _h=>?_);conv=>whnf)))
      refine RM.i1 ?_
      simp [fitsM, *]
      rfl
    · ((conv=>whnf);(repeat' ((first|refine Nd ?_|refine Hv fun _h=>?_);conv=>whnf)))
      (first|refine Br.od (fun h2=>?_) (fun h2=>?_)|refine Br.mk (fun h2=>?_) (fun h2=>?_)<;>simp [-List.length_eq_zero_iff,-List.getD_eq_getElem?_getD] at h2)<;>(try simp only [Int.toNat_natCast] at h2)<;>(conv=>whnf)
      · ((conv=>whnf);(repeat' ((first|refine Nd ?_|refine Hv fun _h=>?_);conv=>whnf)))
        refine Br.yes (by simp [h2]) ?_
        ((conv=>whnf);(repeat' ((first|refine Nd ?_|refine Hv fun _h=>?_);conv=>whnf)))
        refine RM.i1 ?_
        simp [fitsM, *]
        rfl
      · ((conv=>whnf);(repeat' ((first|refine Nd ?_|refine Hv fun _h=>?_);conv=>whnf)))
        (first|refine Br.od (fun h3=>?_) (fun h3=>?_)|refine Br.mk (fun h3=>?_) (fun h3=>?_)<;>simp [-List.length_eq_zero_iff,-List.getD_eq_getElem?_getD] at h3)<;>(try simp only [Int.toNat_natCast] at h3)<;>(conv=>whnf)
        · ((conv=>whnf);(repeat' ((first|refine Nd ?_|refine Hv fun _h=>?_);conv=>whnf)))
          refine Br.yes (by simp [h3]) ?_
          ((conv=>whnf);(repeat' ((first|refine Nd ?_|refine Hv fun _h=>?_);conv=>whnf)))
          refine RM.i1 ?_
          simp [fitsM, *]
          rfl
        · ((conv=>whnf);(repeat' ((first|refine Nd ?_|refine Hv fun _h=>?_);conv=>whnf)))
          (first|refine Br.od (fun h4=>?_) (fun h4=>?_)|refine Br.mk (fun h4=>?_) (fun h4=>?_)<;>simp [-List.length_eq_zero_iff,-List.getD_eq_getElem?_getD] at h4)<;>(try simp only [Int.toNat_natCast] at h4)<;>(conv=>whnf)
          · ((conv=>whnf);(repeat' ((first|refine Nd ?_|refine Hv fun _h=>?_);conv=>whnf)))
            refine Br.yes (by simp [h4]) ?_
            ((conv=>whnf);(repeat' ((first|refine Nd ?_|refine Hv fun _h=>?_);conv=>whnf)))
            refine RM.i1 ?_
            simp [fitsM, *]
            rfl
          · ((conv=>whnf);(repeat' ((first|refine Nd ?_|refine Hv fun _h=>?_);conv=>whnf)))
            (first|refine Br.od (fun h5=>?_) (fun h5=>?_)|refine Br.mk (fun h5=>?_) (fun h5=>?_)<;>simp [-List.length_eq_zero_iff,-List.getD_eq_getElem?_getD] at h5)<;>(try simp only [Int.toNat_natCast] at h5)<;>(conv=>whnf)
            · ((conv=>whnf);(repeat' ((first|refine Nd ?_|refine Hv fun _h=>?_);conv=>whnf)))
              refine RM.i1 ?_
              simp [fitsM, *]
              rfl
            · ((conv=>whnf);(repeat' ((first|refine Nd ?_|refine Hv fun _h=>?_);conv=>whnf)))
              refine RM.i1 ?_
              simp [fitsM, *]
theorem fits_body : HasBody Tryz.prog 76 := hB Tryz.func76
theorem counts_spec (e : Evt) : PSpec Tryz.prog 33 [.a e.cells] (.t [.inl (.bool (!e.ret || decide (e.err = 0))), .inl (.bool (e.ret && decide (e.err = 0)))]) := by
  refine PSpec.rm ?_
  refine ov hΓ Tryz.func33 20 0 [.tmp 2, .tmp 3] Tryz.ntmps33 Tryz.results33 ?_
  conv=>whnf
  refine Need.mk (by intro h; simp [h]) ?_
  ((conv=>whnf);(repeat' ((first|refine Nd ?_|refine Hv fun _h=>?_);conv=>whnf)))
  refine Need.mk (by intro h; simp [h]) ?_
  ((conv=>whnf);(repeat' ((first|refine Nd ?_|refine Hv fun _h=>?_);conv=>whnf)))
  refine RM.i2 ?_ ?_
  · cases e.ret
    · rfl
    · by_cases h : e.err = 0 <;> simp [h]
  · cases e.ret
    · rfl
    · by_cases h : e.err = 0 <;> simp [h]
theorem counts_body : HasBody Tryz.prog 33 := hB Tryz.func33
end Go.Proofs
end

section
open Go Go.Am
namespace Go.Proofs
theorem fits18_spec (kind block err : Int) (data rdata : ByteArray) : PSpec Tryz.prog 108 [.a [.int .i64 kind, .int .i64 block, .str data], .a [.int .i64 err, .str rdata]] (.c (.bool (fitsM kind err rdata))) := by
  refine PSpec.rm ?_
  refine ov hΓ Tryz.func108 37 0 [.tmp 4] Tryz.ntmps108 Tryz.results108 ?_
  ((conv=>whnf);(repeat' ((first|refine Nd ?_|refine Hv fun _h=>?_);conv=>whnf)))
  (first|refine Br.od (fun h0=>?_) (fun h0=>?_)|refine Br.mk (fun h0=>?_) (fun h0=>?_)<;>simp [-List.length_eq_zero_iff,-List.getD_eq_getElem?_getD] at h0)<;>(try simp only [Int.toNat_natCast] at h0)<;>(conv=>whnf)
  · ((conv=>whnf);(repeat' ((first|refine Nd ?_|refine Hv fun _h=>?_);conv=>whnf)))
    refine RM.i1 ?_
    unfold fitsM
    rw [if_pos h0]
    by_cases h1 : kind = 1
    · rw [if_pos h1]
      by_cases h2 : rdata.size = 16
      · simp [h1, h2]
      · have : ¬ ((rdata.size : Int) = 16) := by omega
        simp [h1, h2, this]
    · rw [if_neg h1]
      have e1 : (kind == 1) = false := by simpa using h1
      have e2 : (kind != 1) = true := by simpa using h1
      rw [e1, e2]
      rfl
  · ((conv=>whnf);(repeat' ((first|refine Nd ?_|refine Hv fun _h=>?_);conv=>whnf)))
    (first|refine Br.od (fun h1=>?_) (fun h1=>?_)|refine Br.mk (fun h1=>?_) (fun h1=>?_)<;>simp [-List.length_eq_zero_iff,-List.getD_eq_getElem?_getD] at h1)<;>(try simp only [Int.toNat_natCast] at h1)<;>(conv=>whnf)
    · ((conv=>whnf);(repeat' ((first|refine Nd ?_|refine Hv fun _h=>?_);conv=>whnf)))
      refine Br.yes (by simp [h1]) ?_
      ((conv=>whnf);(repeat' ((first|refine Nd ?_|refine Hv fun _h=>?_);conv=>whnf)))
      refine RM.i1 ?_
      simp [fitsM, *]
      rfl
    · ((conv=>whnf);(repeat' ((first|refine Nd ?_|refine Hv fun _h=>?_);conv=>whnf)))
      (first|refine Br.od (fun h2=>?_) (fun h2=>?_)|refine Br.mk (fun h2=>?_) (fun h2=>?_)<;>simp [-List.length_eq_zero_iff,-List.getD_eq_getElem?_getD] at h2)<;>(try simp only [Int.toNat_natCast] at h2)<;>(conv=>whnf)
      · ((conv=>whnf);(repeat' ((first|refine Nd ?_|refine Hv fun _h=>?_);conv=>whnf)))
        refine Br.yes (by simp [h2]) ?_
        ((conv=>whnf);(repeat' ((first|refine Nd ?_|refine Hv fun _h=>?_);conv=>whnf)))
        refine RM.i1 ?_
        simp [fitsM, *]
        rfl
      · ((conv=>whnf);(repeat' ((first|refine Nd ?_|refine Hv fun _h=>?_);conv=>whnf)))
        (first|refine Br.od (fun h3=>?_) (fun h3=>?_)|refine Br.mk (fun h3=>?_) (fun h3=>?_)<;>simp [-List.length_eq_zero_iff,-List.getD_eq_getElem?_getD] at h3)<;>(try simp only [Int.toNat_natCast] at h3)<;>(conv=>whnf)
        · ((conv=>whnf);(repeat' ((first|refine Nd ?_|refine Hv fun _h=>?_);conv=>whnf)))
          refine Br.yes (by simp [h3]) ?_
          ((conv=>whnf);(repeat' ((first|refine Nd ?_|refine Hv fun _h=>?_);conv=>whnf)))
          refine RM.i1 ?_
          simp [fitsM, *]
          rfl
        · ((conv=>whnf);(repeat' ((first|refine Nd ?_|refine Hv fun _h=>?_);conv=>whnf)))
          (first|refine Br.od (fun h4=>?_) (fun h4=>?_)|refine Br.mk (fun h4=>?_) (fun h4=>?_)<;>simp [-List.length_eq_zero_iff,-List.getD_eq_getElem?_getD] at h4)<;>(try simp only [Int.toNat_natCast] at h4)<;>(conv=>whnf)
          · ((conv=>whnf);(repeat' ((first|refine Nd ?_|refine Hv fun _h=>?_);conv=>whnf)))
            refine Br.yes (by simp [h4]) ?_
            ((conv=>whnf);(repeat' ((first|refine Nd ?_|refine Hv fun _h=>?_);conv=>whnf)))
            refine RM.i1 ?_
            simp [fitsM, *]
            rfl
          · ((conv=>whnf);(repeat' ((first|refine Nd ?_|refine Hv fun _h=>?_);conv=>whnf)))
            (first|refine Br.od (fun h5=>?_) (fun h5=>?_)|refine Br.mk (fun h5=>?_) (fun h5=>?_)<;>simp [-List.length_eq_zero_iff,-List.getD_eq_getElem?_getD] at h5)<;>(try simp only [Int.toNat_natCast] at h5)<;>(conv=>whnf)
            · ((conv=>whnf);(repeat' ((first|refine Nd ?_|refine Hv fun _h=>?_);conv=>whnf)))
              refine RM.i1 ?_
              simp [fitsM, *]
              rfl
            · ((conv=>whnf);(repeat' ((first|refine Nd ?_|refine Hv fun _h=>?_);conv=>whnf)))
              refine RM.i1 ?_
              simp [fitsM, *]
theorem fits18_body : HasBody Tryz.prog 108 := hB Tryz.func108
end Go.Proofs
end
