/- Part of the proofs of laws of this seat: contracts and plain lemmas; no condition is added to a statement. -/
import Derived.Test.YtcfmifhbimkhfaaGreatCtB
set_option linter.unusedSimpArgs false
set_option linter.unusedVariables false
section
open Go Go.Am
namespace Go.Proofs
set_option maxRecDepth 20000
theorem list_eq {α : Type} [Inhabited α] {a b : List α} (hl : a.length = b.length) (h : ∀ i, i < a.length → a.getD i default = b.getD i default) : a = b := by
  refine List.ext_getElem hl fun i h1 h2 => ?_
  have := h i h1
  simpa [List.getD, h1, h2] using this
theorem list_ne {α : Type} [Inhabited α] {a b : List α} {k : Nat} (h : a.getD k default ≠ b.getD k default) : a ≠ b := fun e => h (by rw [e])
theorem eqEnt (x y : Ent) : ((decide (x.block = y.block) && (decide (x.kind = y.kind) && (decide (x.version = y.version) && (decide (x.move = y.move) && (decide (x.zone = y.zone) && (decide (x.offset = y.offset) && true)))))) == false) = !decide (x = y) := by
  rw [show (∀ b : Bool, (b == false) = !b) from fun b => by cases b <;> rfl]
  congr 1
  rw [Bool.eq_iff_iff]
  cases x; cases y
  simp [Ent.mk.injEq]
theorem eqReq (x y : Req) : ((decide (x.serial = y.serial) && (decide (x.kind = y.kind) && (decide (x.block = y.block) && (decide (x.data = y.data) && true)))) == false) = !decide (x = y) := by
  rw [show (∀ b : Bool, (b == false) = !b) from fun b => by cases b <;> rfl]
  congr 1
  rw [Bool.eq_iff_iff]
  cases x; cases y
  simp [Req.mk.injEq]
theorem eqRet (x y : Ret) : ((decide (x.zone = y.zone) && (decide (x.epoch = y.epoch) && true)) == false) = !decide (x = y) := by
  rw [show (∀ b : Bool, (b == false) = !b) from fun b => by cases b <;> rfl]
  congr 1
  rw [Bool.eq_iff_iff]
  cases x; cases y
  simp [Ret.mk.injEq]
theorem eqRec (x y : Rec) : ((decide (x.kind = y.kind) && (decide (x.block = y.block) && (decide (x.version = y.version) && (decide (x.move = y.move) && (decide (x.payload = y.payload) && true))))) == false) = !decide (x = y) := by
  rw [show (∀ b : Bool, (b == false) = !b) from fun b => by cases b <;> rfl]
  congr 1
  rw [Bool.eq_iff_iff]
  cases x; cases y
  simp [Rec.mk.injEq]
theorem eqEvt (x y : Evt) : ((decide (x.ret = y.ret) && (decide (x.queue = y.queue) && (decide (x.serial = y.serial) && (decide (x.kind = y.kind) && (decide (x.block = y.block) && (decide (x.data = y.data) && (decide (x.err = y.err) && (decide (x.rdata = y.rdata) && true)))))))) == false) = !decide (x = y) := by
  rw [show (∀ b : Bool, (b == false) = !b) from fun b => by cases b <;> rfl]
  congr 1
  rw [Bool.eq_iff_iff]
  cases x; cases y
  simp [Evt.mk.injEq]
theorem eqWrk (x y : Wrk) : ((decide (x.state = y.state) && (decide (x.req.serial = y.req.serial) && (decide (x.req.kind = y.req.kind) && (decide (x.req.block = y.req.block) && (decide (x.req.data = y.req.data) && (decide (x.ent.block = y.ent.block) && (decide (x.ent.kind = y.ent.kind) && (decide (x.ent.version = y.ent.version) && (decide (x.ent.move = y.ent.move) && (decide (x.ent.zone = y.ent.zone) && (decide (x.ent.offset = y.ent.offset) && (decide (x.data = y.data) && true)))))))))))) == false) = !decide (x = y) := by
  rw [show (∀ b : Bool, (b == false) = !b) from fun b => by cases b <;> rfl]
  congr 1
  rw [Bool.eq_iff_iff]
  obtain ⟨_, ⟨⟩, ⟨⟩, _⟩ := x; obtain ⟨_, ⟨⟩, ⟨⟩, _⟩ := y
  simp [Wrk.mk.injEq, Req.mk.injEq, Ent.mk.injEq, and_assoc]
theorem eqConf (x y : Conf) : ((decide (x.zones = y.zones) && (decide (x.size = y.size) && (decide (x.blocks = y.blocks) && (decide (x.queues = y.queues) && (decide (x.depth = y.depth) && (decide (x.shards = y.shards) && true)))))) == false) = !decide (x = y) := by
  rw [show (∀ b : Bool, (b == false) = !b) from fun b => by cases b <;> rfl]
  congr 1
  rw [Bool.eq_iff_iff]
  cases x; cases y
  simp [Conf.mk.injEq]
theorem eqCln (x y : Cln) : ((decide (x.state = y.state) && (decide (x.victim = y.victim) && (decide (x.offset = y.offset) && (decide (x.ent.block = y.ent.block) && (decide (x.ent.kind = y.ent.kind) && (decide (x.ent.version = y.ent.version) && (decide (x.ent.move = y.ent.move) && (decide (x.ent.zone = y.ent.zone) && (decide (x.ent.offset = y.ent.offset) && (decide (x.pzone = y.pzone) && (decide (x.poff = y.poff) && true))))))))))) == true) = decide (x = y) := by
  rw [show (∀ b : Bool, (b == true) = b) from fun b => by cases b <;> rfl]
  rw [Bool.eq_iff_iff]
  obtain ⟨_, _, _, ⟨⟩, _, _⟩ := x; obtain ⟨_, _, _, ⟨⟩, _, _⟩ := y
  simp [Cln.mk.injEq, Ent.mk.injEq, and_assoc]
theorem eqInt (x y : Int) : (!decide (x = y)) = !decide (x = y) := rfl
theorem sameInts_spec (a b : List Int) (ha : a.length ≤ 1000000) : PSpec Tryz.prog 35 [.c (intsC a), .c (intsC b)] (.c (.bool (decide (a = b)))) := by
  refine PSpec.rm ?_
  refine CSpec.of_vc hΓ Tryz.func35 rfl 26 0 [.tmp 4] Tryz.ntmps35 rfl (by rw [Tryz.results35]) rfl ?_
  conv => whnf
  repeat' ((first | refine Need.auto ?_ | refine Have.mk (fun _h => ?_)); conv => whnf)
  (first | refine Br.lt (fun h1 => ?_) (fun h1 => ?_) | refine Br.le (fun h1 => ?_) (fun h1 => ?_) | refine Br.gt (fun h1 => ?_) (fun h1 => ?_) | refine Br.ge (fun h1 => ?_) (fun h1 => ?_) | refine Br.eq (fun h1 => ?_) (fun h1 => ?_) | refine Br.ne (fun h1 => ?_) (fun h1 => ?_) | refine Br.not (fun h1 => ?_) (fun h1 => ?_) | (refine Br.mk (fun h1 => ?_) (fun h1 => ?_) <;> simp [-List.length_eq_zero_iff, -List.getD_eq_getElem?_getD] at h1)) <;> (try simp only [Int.toNat_natCast] at h1) <;> (conv => whnf)
  · repeat' ((first | refine Need.auto ?_ | refine Have.mk (fun _h => ?_)); conv => whnf)
    rw [show decide (a = b) = false from decide_eq_false (fun e => h1 (by rw [e]))]
    refine RM.immW rfl ?_; (repeat' (first | exact WA.nil | refine WA.cons rfl ?_ ?_ | exact WB.nil | refine WB.cons ?_ ?_ | exact WT.nil | refine WT.cons ?_ ?_ | exact WH.nil | refine WH.cons ?_ ?_ | exact WR.nil | refine WR.cons rfl ?_ ?_ | refine WO.vr ?_ | exact WO.dead | exact WO.mpS | refine WO.mpA ?_ | exact WO.arrP (fun i j => plainRow _ _ _) (by first | with_reducible rfl | assumption | (symm; assumption) | omega | (dsimp only; omega) | (rw [wrap_id _ (by omega) (by omega)]; first | rfl | omega | (push_cast; omega)) | rfl | (simp <;> fail)) | refine WO.arrA ?_ | exact WS.u | refine WS.c ?_ | refine WS.a ?_ | refine WS.t ?_ | exact WL.nil | refine WL.cons ?_ ?_ | exact WTL.nil | refine WTL.consC ?_ ?_ | refine WTL.consL ?_ ?_ | exact WC.nils | exact WC.nil rfl | exact WC.nilp | refine WC.fzA | exact WC.ptr rfl (Nat.le_of_ble_eq_true rfl) | exact WC.mpr rfl (Nat.le_of_ble_eq_true rfl) | refine WC.slA | refine WC.intA | refine WC.int ?_ | refine WC.boolA | refine WC.bool ?_ | refine WC.strA | refine WC.str ?_ | exact WC.imm rfl))
  · repeat' ((first | refine Need.auto ?_ | refine Have.mk (fun _h => ?_)); conv => whnf)
    refine Lp.mkK hΓ (ι := Nat) [0, 1] (fun i => [(5, .c (.int .i64 i))]) (fun _ => []) (fun i => i ≤ a.length ∧ ∀ j, j < i → a.getD j default = b.getD j default) (fun i => a.length - i) 0 ⟨Nat.zero_le _, fun j hj => absurd hj (Nat.not_lt_zero _)⟩ ?_ ?_
    · refine Mv.mkW ?_ ?_ (Nat.le_of_ble_eq_true rfl) <;> (repeat' (first | exact WA.nil | refine WA.cons rfl ?_ ?_ | exact WB.nil | refine WB.cons ?_ ?_ | exact WT.nil | refine WT.cons ?_ ?_ | exact WH.nil | refine WH.cons ?_ ?_ | exact WR.nil | refine WR.cons rfl ?_ ?_ | refine WO.vr ?_ | exact WO.dead | exact WO.mpS | refine WO.mpA ?_ | exact WO.arrP (fun i j => plainRow _ _ _) (by first | with_reducible rfl | assumption | (symm; assumption) | omega | (dsimp only; omega) | (rw [wrap_id _ (by omega) (by omega)]; first | rfl | omega | (push_cast; omega)) | rfl | (simp <;> fail)) | refine WO.arrA ?_ | exact WS.u | refine WS.c ?_ | refine WS.a ?_ | refine WS.t ?_ | exact WL.nil | refine WL.cons ?_ ?_ | exact WTL.nil | refine WTL.consC ?_ ?_ | refine WTL.consL ?_ ?_ | exact WC.nils | exact WC.nil rfl | exact WC.nilp | refine WC.fzA | exact WC.ptr rfl (Nat.le_of_ble_eq_true rfl) | exact WC.mpr rfl (Nat.le_of_ble_eq_true rfl) | refine WC.slA | refine WC.intA | refine WC.int ?_ | refine WC.boolA | refine WC.bool ?_ | refine WC.strA | refine WC.str ?_ | exact WC.imm rfl))
    · rintro k ⟨hk, hk2⟩
      conv => whnf
      repeat' ((first | refine Need.auto ?_ | refine Have.mk (fun _h => ?_)); conv => whnf)
      (first | refine Br.lt (fun h2 => ?_) (fun h2 => ?_) | refine Br.le (fun h2 => ?_) (fun h2 => ?_) | refine Br.gt (fun h2 => ?_) (fun h2 => ?_) | refine Br.ge (fun h2 => ?_) (fun h2 => ?_) | refine Br.eq (fun h2 => ?_) (fun h2 => ?_) | refine Br.ne (fun h2 => ?_) (fun h2 => ?_) | refine Br.not (fun h2 => ?_) (fun h2 => ?_) | refine Br.mk (fun h2 => ?_) (fun h2 => ?_)) <;> (try simp only [Int.toNat_natCast] at h2) <;> (conv => whnf)
      · repeat' ((first | refine Need.auto ?_ | refine Have.mk (fun _h => ?_)); conv => whnf)
        refine Dr.mk hΓ hMix (by kernel_rfl) ?_; conv => whnf
        repeat' ((first | refine Need.auto ?_ | refine Have.mk (fun _h => ?_)); conv => whnf)
        by_cases e : a.getD k default = b.getD k default
        · refine Br.no ((eqInt (a.getD k default) (b.getD k default)).trans (by simp only [e, decide_true, Bool.not_true])) ?_
          conv => whnf
          repeat' ((first | refine Need.auto ?_ | refine Have.mk (fun _h => ?_)); conv => whnf)
          have w0 := wrap_id (↑k + 1) (by omega) (by omega)
          refine ⟨k + 1, ⟨by omega, all_step hk2 e⟩, by omega, ?_⟩
          refine Mv.mkW ?_ ?_ (Nat.le_of_ble_eq_true rfl) <;> (repeat' (first | exact WA.nil | refine WA.cons rfl ?_ ?_ | exact WB.nil | refine WB.cons ?_ ?_ | exact WT.nil | refine WT.cons ?_ ?_ | exact WH.nil | refine WH.cons ?_ ?_ | exact WR.nil | refine WR.cons rfl ?_ ?_ | refine WO.vr ?_ | exact WO.dead | exact WO.mpS | refine WO.mpA ?_ | exact WO.arrP (fun i j => plainRow _ _ _) (by first | with_reducible rfl | assumption | (symm; assumption) | omega | (dsimp only; omega) | (rw [wrap_id _ (by omega) (by omega)]; first | rfl | omega | (push_cast; omega)) | rfl | (simp <;> fail)) | refine WO.arrA ?_ | exact WS.u | refine WS.c ?_ | refine WS.a ?_ | refine WS.t ?_ | exact WL.nil | refine WL.cons ?_ ?_ | exact WTL.nil | refine WTL.consC ?_ ?_ | refine WTL.consL ?_ ?_ | exact WC.nils | exact WC.nil rfl | exact WC.nilp | refine WC.fzA | exact WC.ptr rfl (Nat.le_of_ble_eq_true rfl) | exact WC.mpr rfl (Nat.le_of_ble_eq_true rfl) | refine WC.slA | refine WC.intA | refine WC.int ?_ | refine WC.boolA | refine WC.bool ?_ | refine WC.strA | refine WC.str ?_ | exact WC.imm rfl))
        · refine Br.yes ((eqInt (a.getD k default) (b.getD k default)).trans (by simp only [e, decide_false, Bool.not_false])) ?_
          conv => whnf
          repeat' ((first | refine Need.auto ?_ | refine Have.mk (fun _h => ?_)); conv => whnf)
          rw [decide_eq_false (list_ne e)]
          refine RM.immW rfl ?_; (repeat' (first | exact WA.nil | refine WA.cons rfl ?_ ?_ | exact WB.nil | refine WB.cons ?_ ?_ | exact WT.nil | refine WT.cons ?_ ?_ | exact WH.nil | refine WH.cons ?_ ?_ | exact WR.nil | refine WR.cons rfl ?_ ?_ | refine WO.vr ?_ | exact WO.dead | exact WO.mpS | refine WO.mpA ?_ | exact WO.arrP (fun i j => plainRow _ _ _) (by first | with_reducible rfl | assumption | (symm; assumption) | omega | (dsimp only; omega) | (rw [wrap_id _ (by omega) (by omega)]; first | rfl | omega | (push_cast; omega)) | rfl | (simp <;> fail)) | refine WO.arrA ?_ | exact WS.u | refine WS.c ?_ | refine WS.a ?_ | refine WS.t ?_ | exact WL.nil | refine WL.cons ?_ ?_ | exact WTL.nil | refine WTL.consC ?_ ?_ | refine WTL.consL ?_ ?_ | exact WC.nils | exact WC.nil rfl | exact WC.nilp | refine WC.fzA | exact WC.ptr rfl (Nat.le_of_ble_eq_true rfl) | exact WC.mpr rfl (Nat.le_of_ble_eq_true rfl) | refine WC.slA | refine WC.intA | refine WC.int ?_ | refine WC.boolA | refine WC.bool ?_ | refine WC.strA | refine WC.str ?_ | exact WC.imm rfl))
      · repeat' ((first | refine Need.auto ?_ | refine Have.mk (fun _h => ?_)); conv => whnf)
        have e : a = b := list_eq (by omega) (fun i hi => hk2 i (by omega))
        rw [decide_eq_true e]
        refine RM.immW rfl ?_; (repeat' (first | exact WA.nil | refine WA.cons rfl ?_ ?_ | exact WB.nil | refine WB.cons ?_ ?_ | exact WT.nil | refine WT.cons ?_ ?_ | exact WH.nil | refine WH.cons ?_ ?_ | exact WR.nil | refine WR.cons rfl ?_ ?_ | refine WO.vr ?_ | exact WO.dead | exact WO.mpS | refine WO.mpA ?_ | exact WO.arrP (fun i j => plainRow _ _ _) (by first | with_reducible rfl | assumption | (symm; assumption) | omega | (dsimp only; omega) | (rw [wrap_id _ (by omega) (by omega)]; first | rfl | omega | (push_cast; omega)) | rfl | (simp <;> fail)) | refine WO.arrA ?_ | exact WS.u | refine WS.c ?_ | refine WS.a ?_ | refine WS.t ?_ | exact WL.nil | refine WL.cons ?_ ?_ | exact WTL.nil | refine WTL.consC ?_ ?_ | refine WTL.consL ?_ ?_ | exact WC.nils | exact WC.nil rfl | exact WC.nilp | refine WC.fzA | exact WC.ptr rfl (Nat.le_of_ble_eq_true rfl) | exact WC.mpr rfl (Nat.le_of_ble_eq_true rfl) | refine WC.slA | refine WC.intA | refine WC.int ?_ | refine WC.boolA | refine WC.bool ?_ | refine WC.strA | refine WC.str ?_ | exact WC.imm rfl))
theorem sameInts_body : HasBody Tryz.prog 35 := ⟨⟨Tryz.f35, Tryz.func35, rfl, by kernel_rfl⟩⟩
theorem same08_spec (a b : List Ent) (ha : a.length ≤ 1000000) : PSpec Tryz.prog 186 [.c (entsC a), .c (entsC b)] (.c (.bool (decide (a = b)))) := by
  refine PSpec.rm ?_
  refine CSpec.of_vc hΓ Tryz.func186 rfl 26 0 [.tmp 4] Tryz.ntmps186 rfl (by rw [Tryz.results186]) rfl ?_
  conv => whnf
  repeat' ((first | refine Need.auto ?_ | refine Have.mk (fun _h => ?_)); conv => whnf)
  (first | refine Br.lt (fun h1 => ?_) (fun h1 => ?_) | refine Br.le (fun h1 => ?_) (fun h1 => ?_) | refine Br.gt (fun h1 => ?_) (fun h1 => ?_) | refine Br.ge (fun h1 => ?_) (fun h1 => ?_) | refine Br.eq (fun h1 => ?_) (fun h1 => ?_) | refine Br.ne (fun h1 => ?_) (fun h1 => ?_) | refine Br.not (fun h1 => ?_) (fun h1 => ?_) | (refine Br.mk (fun h1 => ?_) (fun h1 => ?_) <;> simp [-List.length_eq_zero_iff, -List.getD_eq_getElem?_getD] at h1)) <;> (try simp only [Int.toNat_natCast] at h1) <;> (conv => whnf)
  · repeat' ((first | refine Need.auto ?_ | refine Have.mk (fun _h => ?_)); conv => whnf)
    rw [show decide (a = b) = false from decide_eq_false (fun e => h1 (by rw [e]))]
    refine RM.immW rfl ?_; (repeat' (first | exact WA.nil | refine WA.cons rfl ?_ ?_ | exact WB.nil | refine WB.cons ?_ ?_ | exact WT.nil | refine WT.cons ?_ ?_ | exact WH.nil | refine WH.cons ?_ ?_ | exact WR.nil | refine WR.cons rfl ?_ ?_ | refine WO.vr ?_ | exact WO.dead | exact WO.mpS | refine WO.mpA ?_ | exact WO.arrP (fun i j => plainRow _ _ _) (by first | with_reducible rfl | assumption | (symm; assumption) | omega | (dsimp only; omega) | (rw [wrap_id _ (by omega) (by omega)]; first | rfl | omega | (push_cast; omega)) | rfl | (simp <;> fail)) | refine WO.arrA ?_ | exact WS.u | refine WS.c ?_ | refine WS.a ?_ | refine WS.t ?_ | exact WL.nil | refine WL.cons ?_ ?_ | exact WTL.nil | refine WTL.consC ?_ ?_ | refine WTL.consL ?_ ?_ | exact WC.nils | exact WC.nil rfl | exact WC.nilp | refine WC.fzA | exact WC.ptr rfl (Nat.le_of_ble_eq_true rfl) | exact WC.mpr rfl (Nat.le_of_ble_eq_true rfl) | refine WC.slA | refine WC.intA | refine WC.int ?_ | refine WC.boolA | refine WC.bool ?_ | refine WC.strA | refine WC.str ?_ | exact WC.imm rfl))
  · repeat' ((first | refine Need.auto ?_ | refine Have.mk (fun _h => ?_)); conv => whnf)
    refine Lp.mkK hΓ (ι := Nat) [0, 1] (fun i => [(5, .c (.int .i64 i))]) (fun _ => []) (fun i => i ≤ a.length ∧ ∀ j, j < i → a.getD j default = b.getD j default) (fun i => a.length - i) 0 ⟨Nat.zero_le _, fun j hj => absurd hj (Nat.not_lt_zero _)⟩ ?_ ?_
    · refine Mv.mkW ?_ ?_ (Nat.le_of_ble_eq_true rfl) <;> (repeat' (first | exact WA.nil | refine WA.cons rfl ?_ ?_ | exact WB.nil | refine WB.cons ?_ ?_ | exact WT.nil | refine WT.cons ?_ ?_ | exact WH.nil | refine WH.cons ?_ ?_ | exact WR.nil | refine WR.cons rfl ?_ ?_ | refine WO.vr ?_ | exact WO.dead | exact WO.mpS | refine WO.mpA ?_ | exact WO.arrP (fun i j => plainRow _ _ _) (by first | with_reducible rfl | assumption | (symm; assumption) | omega | (dsimp only; omega) | (rw [wrap_id _ (by omega) (by omega)]; first | rfl | omega | (push_cast; omega)) | rfl | (simp <;> fail)) | refine WO.arrA ?_ | exact WS.u | refine WS.c ?_ | refine WS.a ?_ | refine WS.t ?_ | exact WL.nil | refine WL.cons ?_ ?_ | exact WTL.nil | refine WTL.consC ?_ ?_ | refine WTL.consL ?_ ?_ | exact WC.nils | exact WC.nil rfl | exact WC.nilp | refine WC.fzA | exact WC.ptr rfl (Nat.le_of_ble_eq_true rfl) | exact WC.mpr rfl (Nat.le_of_ble_eq_true rfl) | refine WC.slA | refine WC.intA | refine WC.int ?_ | refine WC.boolA | refine WC.bool ?_ | refine WC.strA | refine WC.str ?_ | exact WC.imm rfl))
    · rintro k ⟨hk, hk2⟩
      conv => whnf
      repeat' ((first | refine Need.auto ?_ | refine Have.mk (fun _h => ?_)); conv => whnf)
      (first | refine Br.lt (fun h2 => ?_) (fun h2 => ?_) | refine Br.le (fun h2 => ?_) (fun h2 => ?_) | refine Br.gt (fun h2 => ?_) (fun h2 => ?_) | refine Br.ge (fun h2 => ?_) (fun h2 => ?_) | refine Br.eq (fun h2 => ?_) (fun h2 => ?_) | refine Br.ne (fun h2 => ?_) (fun h2 => ?_) | refine Br.not (fun h2 => ?_) (fun h2 => ?_) | refine Br.mk (fun h2 => ?_) (fun h2 => ?_)) <;> (try simp only [Int.toNat_natCast] at h2) <;> (conv => whnf)
      · repeat' ((first | refine Need.auto ?_ | refine Have.mk (fun _h => ?_)); conv => whnf)
        refine Dr.mk hΓ hMix (by kernel_rfl) ?_; conv => whnf
        repeat' ((first | refine Need.auto ?_ | refine Have.mk (fun _h => ?_)); conv => whnf)
        by_cases e : a.getD k default = b.getD k default
        · refine Br.no ((eqEnt (a.getD k default) (b.getD k default)).trans (by simp only [e, decide_true, Bool.not_true])) ?_
          conv => whnf
          repeat' ((first | refine Need.auto ?_ | refine Have.mk (fun _h => ?_)); conv => whnf)
          have w0 := wrap_id (↑k + 1) (by omega) (by omega)
          refine ⟨k + 1, ⟨by omega, all_step hk2 e⟩, by omega, ?_⟩
          refine Mv.mkW ?_ ?_ (Nat.le_of_ble_eq_true rfl) <;> (repeat' (first | exact WA.nil | refine WA.cons rfl ?_ ?_ | exact WB.nil | refine WB.cons ?_ ?_ | exact WT.nil | refine WT.cons ?_ ?_ | exact WH.nil | refine WH.cons ?_ ?_ | exact WR.nil | refine WR.cons rfl ?_ ?_ | refine WO.vr ?_ | exact WO.dead | exact WO.mpS | refine WO.mpA ?_ | exact WO.arrP (fun i j => plainRow _ _ _) (by first | with_reducible rfl | assumption | (symm; assumption) | omega | (dsimp only; omega) | (rw [wrap_id _ (by omega) (by omega)]; first | rfl | omega | (push_cast; omega)) | rfl | (simp <;> fail)) | refine WO.arrA ?_ | exact WS.u | refine WS.c ?_ | refine WS.a ?_ | refine WS.t ?_ | exact WL.nil | refine WL.cons ?_ ?_ | exact WTL.nil | refine WTL.consC ?_ ?_ | refine WTL.consL ?_ ?_ | exact WC.nils | exact WC.nil rfl | exact WC.nilp | refine WC.fzA | exact WC.ptr rfl (Nat.le_of_ble_eq_true rfl) | exact WC.mpr rfl (Nat.le_of_ble_eq_true rfl) | refine WC.slA | refine WC.intA | refine WC.int ?_ | refine WC.boolA | refine WC.bool ?_ | refine WC.strA | refine WC.str ?_ | exact WC.imm rfl))
        · refine Br.yes ((eqEnt (a.getD k default) (b.getD k default)).trans (by simp only [e, decide_false, Bool.not_false])) ?_
          conv => whnf
          repeat' ((first | refine Need.auto ?_ | refine Have.mk (fun _h => ?_)); conv => whnf)
          rw [decide_eq_false (list_ne e)]
          refine RM.immW rfl ?_; (repeat' (first | exact WA.nil | refine WA.cons rfl ?_ ?_ | exact WB.nil | refine WB.cons ?_ ?_ | exact WT.nil | refine WT.cons ?_ ?_ | exact WH.nil | refine WH.cons ?_ ?_ | exact WR.nil | refine WR.cons rfl ?_ ?_ | refine WO.vr ?_ | exact WO.dead | exact WO.mpS | refine WO.mpA ?_ | exact WO.arrP (fun i j => plainRow _ _ _) (by first | with_reducible rfl | assumption | (symm; assumption) | omega | (dsimp only; omega) | (rw [wrap_id _ (by omega) (by omega)]; first | rfl | omega | (push_cast; omega)) | rfl | (simp <;> fail)) | refine WO.arrA ?_ | exact WS.u | refine WS.c ?_ | refine WS.a ?_ | refine WS.t ?_ | exact WL.nil | refine WL.cons ?_ ?_ | exact WTL.nil | refine WTL.consC ?_ ?_ | refine WTL.consL ?_ ?_ | exact WC.nils | exact WC.nil rfl | exact WC.nilp | refine WC.fzA | exact WC.ptr rfl (Nat.le_of_ble_eq_true rfl) | exact WC.mpr rfl (Nat.le_of_ble_eq_true rfl) | refine WC.slA | refine WC.intA | refine WC.int ?_ | refine WC.boolA | refine WC.bool ?_ | refine WC.strA | refine WC.str ?_ | exact WC.imm rfl))
      · repeat' ((first | refine Need.auto ?_ | refine Have.mk (fun _h => ?_)); conv => whnf)
        have e : a = b := list_eq (by omega) (fun i hi => hk2 i (by omega))
        rw [decide_eq_true e]
        refine RM.immW rfl ?_; (repeat' (first | exact WA.nil | refine WA.cons rfl ?_ ?_ | exact WB.nil | refine WB.cons ?_ ?_ | exact WT.nil | refine WT.cons ?_ ?_ | exact WH.nil | refine WH.cons ?_ ?_ | exact WR.nil | refine WR.cons rfl ?_ ?_ | refine WO.vr ?_ | exact WO.dead | exact WO.mpS | refine WO.mpA ?_ | exact WO.arrP (fun i j => plainRow _ _ _) (by first | with_reducible rfl | assumption | (symm; assumption) | omega | (dsimp only; omega) | (rw [wrap_id _ (by omega) (by omega)]; first | rfl | omega | (push_cast; omega)) | rfl | (simp <;> fail)) | refine WO.arrA ?_ | exact WS.u | refine WS.c ?_ | refine WS.a ?_ | refine WS.t ?_ | exact WL.nil | refine WL.cons ?_ ?_ | exact WTL.nil | refine WTL.consC ?_ ?_ | refine WTL.consL ?_ ?_ | exact WC.nils | exact WC.nil rfl | exact WC.nilp | refine WC.fzA | exact WC.ptr rfl (Nat.le_of_ble_eq_true rfl) | exact WC.mpr rfl (Nat.le_of_ble_eq_true rfl) | refine WC.slA | refine WC.intA | refine WC.int ?_ | refine WC.boolA | refine WC.bool ?_ | refine WC.strA | refine WC.str ?_ | exact WC.imm rfl))
theorem same08_body : HasBody Tryz.prog 186 := ⟨⟨Tryz.f186, Tryz.func186, rfl, by kernel_rfl⟩⟩
theorem same18_spec (a b : List Evt) (ha : a.length ≤ 1000000) : PSpec Tryz.prog 85 [.c (evC a), .c (evC b)] (.c (.bool (decide (a = b)))) := by
  refine PSpec.rm ?_
  refine CSpec.of_vc hΓ Tryz.func85 rfl 26 0 [.tmp 4] Tryz.ntmps85 rfl (by rw [Tryz.results85]) rfl ?_
  conv => whnf
  repeat' ((first | refine Need.auto ?_ | refine Have.mk (fun _h => ?_)); conv => whnf)
  (first | refine Br.lt (fun h1 => ?_) (fun h1 => ?_) | refine Br.le (fun h1 => ?_) (fun h1 => ?_) | refine Br.gt (fun h1 => ?_) (fun h1 => ?_) | refine Br.ge (fun h1 => ?_) (fun h1 => ?_) | refine Br.eq (fun h1 => ?_) (fun h1 => ?_) | refine Br.ne (fun h1 => ?_) (fun h1 => ?_) | refine Br.not (fun h1 => ?_) (fun h1 => ?_) | (refine Br.mk (fun h1 => ?_) (fun h1 => ?_) <;> simp [-List.length_eq_zero_iff, -List.getD_eq_getElem?_getD] at h1)) <;> (try simp only [Int.toNat_natCast] at h1) <;> (conv => whnf)
  · repeat' ((first | refine Need.auto ?_ | refine Have.mk (fun _h => ?_)); conv => whnf)
    rw [show decide (a = b) = false from decide_eq_false (fun e => h1 (by rw [e]))]
    refine RM.immW rfl ?_; (repeat' (first | exact WA.nil | refine WA.cons rfl ?_ ?_ | exact WB.nil | refine WB.cons ?_ ?_ | exact WT.nil | refine WT.cons ?_ ?_ | exact WH.nil | refine WH.cons ?_ ?_ | exact WR.nil | refine WR.cons rfl ?_ ?_ | refine WO.vr ?_ | exact WO.dead | exact WO.mpS | refine WO.mpA ?_ | exact WO.arrP (fun i j => plainRow _ _ _) (by first | with_reducible rfl | assumption | (symm; assumption) | omega | (dsimp only; omega) | (rw [wrap_id _ (by omega) (by omega)]; first | rfl | omega | (push_cast; omega)) | rfl | (simp <;> fail)) | refine WO.arrA ?_ | exact WS.u | refine WS.c ?_ | refine WS.a ?_ | refine WS.t ?_ | exact WL.nil | refine WL.cons ?_ ?_ | exact WTL.nil | refine WTL.consC ?_ ?_ | refine WTL.consL ?_ ?_ | exact WC.nils | exact WC.nil rfl | exact WC.nilp | refine WC.fzA | exact WC.ptr rfl (Nat.le_of_ble_eq_true rfl) | exact WC.mpr rfl (Nat.le_of_ble_eq_true rfl) | refine WC.slA | refine WC.intA | refine WC.int ?_ | refine WC.boolA | refine WC.bool ?_ | refine WC.strA | refine WC.str ?_ | exact WC.imm rfl))
  · repeat' ((first | refine Need.auto ?_ | refine Have.mk (fun _h => ?_)); conv => whnf)
    refine Lp.mkK hΓ (ι := Nat) [0, 1] (fun i => [(5, .c (.int .i64 i))]) (fun _ => []) (fun i => i ≤ a.length ∧ ∀ j, j < i → a.getD j default = b.getD j default) (fun i => a.length - i) 0 ⟨Nat.zero_le _, fun j hj => absurd hj (Nat.not_lt_zero _)⟩ ?_ ?_
    · refine Mv.mkW ?_ ?_ (Nat.le_of_ble_eq_true rfl) <;> (repeat' (first | exact WA.nil | refine WA.cons rfl ?_ ?_ | exact WB.nil | refine WB.cons ?_ ?_ | exact WT.nil | refine WT.cons ?_ ?_ | exact WH.nil | refine WH.cons ?_ ?_ | exact WR.nil | refine WR.cons rfl ?_ ?_ | refine WO.vr ?_ | exact WO.dead | exact WO.mpS | refine WO.mpA ?_ | exact WO.arrP (fun i j => plainRow _ _ _) (by first | with_reducible rfl | assumption | (symm; assumption) | omega | (dsimp only; omega) | (rw [wrap_id _ (by omega) (by omega)]; first | rfl | omega | (push_cast; omega)) | rfl | (simp <;> fail)) | refine WO.arrA ?_ | exact WS.u | refine WS.c ?_ | refine WS.a ?_ | refine WS.t ?_ | exact WL.nil | refine WL.cons ?_ ?_ | exact WTL.nil | refine WTL.consC ?_ ?_ | refine WTL.consL ?_ ?_ | exact WC.nils | exact WC.nil rfl | exact WC.nilp | refine WC.fzA | exact WC.ptr rfl (Nat.le_of_ble_eq_true rfl) | exact WC.mpr rfl (Nat.le_of_ble_eq_true rfl) | refine WC.slA | refine WC.intA | refine WC.int ?_ | refine WC.boolA | refine WC.bool ?_ | refine WC.strA | refine WC.str ?_ | exact WC.imm rfl))
    · rintro k ⟨hk, hk2⟩
      conv => whnf
      repeat' ((first | refine Need.auto ?_ | refine Have.mk (fun _h => ?_)); conv => whnf)
      (first | refine Br.lt (fun h2 => ?_) (fun h2 => ?_) | refine Br.le (fun h2 => ?_) (fun h2 => ?_) | refine Br.gt (fun h2 => ?_) (fun h2 => ?_) | refine Br.ge (fun h2 => ?_) (fun h2 => ?_) | refine Br.eq (fun h2 => ?_) (fun h2 => ?_) | refine Br.ne (fun h2 => ?_) (fun h2 => ?_) | refine Br.not (fun h2 => ?_) (fun h2 => ?_) | refine Br.mk (fun h2 => ?_) (fun h2 => ?_)) <;> (try simp only [Int.toNat_natCast] at h2) <;> (conv => whnf)
      · repeat' ((first | refine Need.auto ?_ | refine Have.mk (fun _h => ?_)); conv => whnf)
        refine Dr.mk hΓ hMix (by kernel_rfl) ?_; conv => whnf
        repeat' ((first | refine Need.auto ?_ | refine Have.mk (fun _h => ?_)); conv => whnf)
        by_cases e : a.getD k default = b.getD k default
        · refine Br.no ((eqEvt (a.getD k default) (b.getD k default)).trans (by simp only [e, decide_true, Bool.not_true])) ?_
          conv => whnf
          repeat' ((first | refine Need.auto ?_ | refine Have.mk (fun _h => ?_)); conv => whnf)
          have w0 := wrap_id (↑k + 1) (by omega) (by omega)
          refine ⟨k + 1, ⟨by omega, all_step hk2 e⟩, by omega, ?_⟩
          refine Mv.mkW ?_ ?_ (Nat.le_of_ble_eq_true rfl) <;> (repeat' (first | exact WA.nil | refine WA.cons rfl ?_ ?_ | exact WB.nil | refine WB.cons ?_ ?_ | exact WT.nil | refine WT.cons ?_ ?_ | exact WH.nil | refine WH.cons ?_ ?_ | exact WR.nil | refine WR.cons rfl ?_ ?_ | refine WO.vr ?_ | exact WO.dead | exact WO.mpS | refine WO.mpA ?_ | exact WO.arrP (fun i j => plainRow _ _ _) (by first | with_reducible rfl | assumption | (symm; assumption) | omega | (dsimp only; omega) | (rw [wrap_id _ (by omega) (by omega)]; first | rfl | omega | (push_cast; omega)) | rfl | (simp <;> fail)) | refine WO.arrA ?_ | exact WS.u | refine WS.c ?_ | refine WS.a ?_ | refine WS.t ?_ | exact WL.nil | refine WL.cons ?_ ?_ | exact WTL.nil | refine WTL.consC ?_ ?_ | refine WTL.consL ?_ ?_ | exact WC.nils | exact WC.nil rfl | exact WC.nilp | refine WC.fzA | exact WC.ptr rfl (Nat.le_of_ble_eq_true rfl) | exact WC.mpr rfl (Nat.le_of_ble_eq_true rfl) | refine WC.slA | refine WC.intA | refine WC.int ?_ | refine WC.boolA | refine WC.bool ?_ | refine WC.strA | refine WC.str ?_ | exact WC.imm rfl))
        · refine Br.yes ((eqEvt (a.getD k default) (b.getD k default)).trans (by simp only [e, decide_false, Bool.not_false])) ?_
          conv => whnf
          repeat' ((first | refine Need.auto ?_ | refine Have.mk (fun _h => ?_)); conv => whnf)
          rw [decide_eq_false (list_ne e)]
          refine RM.immW rfl ?_; (repeat' (first | exact WA.nil | refine WA.cons rfl ?_ ?_ | exact WB.nil | refine WB.cons ?_ ?_ | exact WT.nil | refine WT.cons ?_ ?_ | exact WH.nil | refine WH.cons ?_ ?_ | exact WR.nil | refine WR.cons rfl ?_ ?_ | refine WO.vr ?_ | exact WO.dead | exact WO.mpS | refine WO.mpA ?_ | exact WO.arrP (fun i j => plainRow _ _ _) (by first | with_reducible rfl | assumption | (symm; assumption) | omega | (dsimp only; omega) | (rw [wrap_id _ (by omega) (by omega)]; first | rfl | omega | (push_cast; omega)) | rfl | (simp <;> fail)) | refine WO.arrA ?_ | exact WS.u | refine WS.c ?_ | refine WS.a ?_ | refine WS.t ?_ | exact WL.nil | refine WL.cons ?_ ?_ | exact WTL.nil | refine WTL.consC ?_ ?_ | refine WTL.consL ?_ ?_ | exact WC.nils | exact WC.nil rfl | exact WC.nilp | refine WC.fzA | exact WC.ptr rfl (Nat.le_of_ble_eq_true rfl) | exact WC.mpr rfl (Nat.le_of_ble_eq_true rfl) | refine WC.slA | refine WC.intA | refine WC.int ?_ | refine WC.boolA | refine WC.bool ?_ | refine WC.strA | refine WC.str ?_ | exact WC.imm rfl))
      · repeat' ((first | refine Need.auto ?_ | refine Have.mk (fun _h => ?_)); conv => whnf)
        have e : a = b := list_eq (by omega) (fun i hi => hk2 i (by omega))
        rw [decide_eq_true e]
        refine RM.immW rfl ?_; (repeat' (first | exact WA.nil | refine WA.cons rfl ?_ ?_ | exact WB.nil | refine WB.cons ?_ ?_ | exact WT.nil | refine WT.cons ?_ ?_ | exact WH.nil | refine WH.cons ?_ ?_ | exact WR.nil | refine WR.cons rfl ?_ ?_ | refine WO.vr ?_ | exact WO.dead | exact WO.mpS | refine WO.mpA ?_ | exact WO.arrP (fun i j => plainRow _ _ _) (by first | with_reducible rfl | assumption | (symm; assumption) | omega | (dsimp only; omega) | (rw [wrap_id _ (by omega) (by omega)]; first | rfl | omega | (push_cast; omega)) | rfl | (simp <;> fail)) | refine WO.arrA ?_ | exact WS.u | refine WS.c ?_ | refine WS.a ?_ | refine WS.t ?_ | exact WL.nil | refine WL.cons ?_ ?_ | exact WTL.nil | refine WTL.consC ?_ ?_ | refine WTL.consL ?_ ?_ | exact WC.nils | exact WC.nil rfl | exact WC.nilp | refine WC.fzA | exact WC.ptr rfl (Nat.le_of_ble_eq_true rfl) | exact WC.mpr rfl (Nat.le_of_ble_eq_true rfl) | refine WC.slA | refine WC.intA | refine WC.int ?_ | refine WC.boolA | refine WC.bool ?_ | refine WC.strA | refine WC.str ?_ | exact WC.imm rfl))
theorem same18_body : HasBody Tryz.prog 85 := ⟨⟨Tryz.f85, Tryz.func85, rfl, by kernel_rfl⟩⟩
theorem same09_spec (a b : List (List Ent)) (ha : a.length ≤ 1000000) (hs : ∀ i, (a.getD i default).length ≤ 1000000) : PSpec Tryz.prog 79 [.a [shardsC a], .a [shardsC b]] (.c (.bool (decide (a = b)))) := by
  refine PSpec.rm ?_
  refine CSpec.of_vc hΓ Tryz.func79 rfl 32 0 [.tmp 4] Tryz.ntmps79 rfl (by rw [Tryz.results79]) rfl ?_
  conv => whnf
  repeat' ((first | refine Need.auto ?_ | refine Have.mk (fun _h => ?_)); conv => whnf)
  (first | refine Br.lt (fun h1 => ?_) (fun h1 => ?_) | refine Br.le (fun h1 => ?_) (fun h1 => ?_) | refine Br.gt (fun h1 => ?_) (fun h1 => ?_) | refine Br.ge (fun h1 => ?_) (fun h1 => ?_) | refine Br.eq (fun h1 => ?_) (fun h1 => ?_) | refine Br.ne (fun h1 => ?_) (fun h1 => ?_) | refine Br.not (fun h1 => ?_) (fun h1 => ?_) | (refine Br.mk (fun h1 => ?_) (fun h1 => ?_) <;> simp [-List.length_eq_zero_iff, -List.getD_eq_getElem?_getD] at h1)) <;> (try simp only [Int.toNat_natCast] at h1) <;> (conv => whnf)
  · repeat' ((first | refine Need.auto ?_ | refine Have.mk (fun _h => ?_)); conv => whnf)
    rw [show decide (a = b) = false from decide_eq_false (fun e => h1 (by rw [e]))]
    refine RM.immW rfl ?_; (repeat' (first | exact WA.nil | refine WA.cons rfl ?_ ?_ | exact WB.nil | refine WB.cons ?_ ?_ | exact WT.nil | refine WT.cons ?_ ?_ | exact WH.nil | refine WH.cons ?_ ?_ | exact WR.nil | refine WR.cons rfl ?_ ?_ | refine WO.vr ?_ | exact WO.dead | exact WO.mpS | refine WO.mpA ?_ | exact WO.arrP (fun i j => plainRow _ _ _) (by first | with_reducible rfl | assumption | (symm; assumption) | omega | (dsimp only; omega) | (rw [wrap_id _ (by omega) (by omega)]; first | rfl | omega | (push_cast; omega)) | rfl | (simp <;> fail)) | refine WO.arrA ?_ | exact WS.u | refine WS.c ?_ | refine WS.a ?_ | refine WS.t ?_ | exact WL.nil | refine WL.cons ?_ ?_ | exact WTL.nil | refine WTL.consC ?_ ?_ | refine WTL.consL ?_ ?_ | exact WC.nils | exact WC.nil rfl | exact WC.nilp | refine WC.fzA | exact WC.ptr rfl (Nat.le_of_ble_eq_true rfl) | exact WC.mpr rfl (Nat.le_of_ble_eq_true rfl) | refine WC.slA | refine WC.intA | refine WC.int ?_ | refine WC.boolA | refine WC.bool ?_ | refine WC.strA | refine WC.str ?_ | exact WC.imm rfl))
  · repeat' ((first | refine Need.auto ?_ | refine Have.mk (fun _h => ?_)); conv => whnf)
    refine Lp.mkK hΓ (ι := Nat) [2, 3] (fun i => [(5, .c (.int .i64 i))]) (fun _ => [.vr [shardsC a], .vr [shardsC b]]) (fun i => i ≤ a.length ∧ ∀ j, j < i → a.getD j default = b.getD j default) (fun i => a.length - i) 0 ⟨Nat.zero_le _, fun j hj => absurd hj (Nat.not_lt_zero _)⟩ ?_ ?_
    · refine Mv.mkW ?_ ?_ (Nat.le_of_ble_eq_true rfl) <;> (repeat' (first | exact WA.nil | refine WA.cons rfl ?_ ?_ | exact WB.nil | refine WB.cons ?_ ?_ | exact WT.nil | refine WT.cons ?_ ?_ | exact WH.nil | refine WH.cons ?_ ?_ | exact WR.nil | refine WR.cons rfl ?_ ?_ | refine WO.vr ?_ | exact WO.dead | exact WO.mpS | refine WO.mpA ?_ | exact WO.arrP (fun i j => plainRow _ _ _) (by first | with_reducible rfl | assumption | (symm; assumption) | omega | (dsimp only; omega) | (rw [wrap_id _ (by omega) (by omega)]; first | rfl | omega | (push_cast; omega)) | rfl | (simp <;> fail)) | refine WO.arrA ?_ | exact WS.u | refine WS.c ?_ | refine WS.a ?_ | refine WS.t ?_ | exact WL.nil | refine WL.cons ?_ ?_ | exact WTL.nil | refine WTL.consC ?_ ?_ | refine WTL.consL ?_ ?_ | exact WC.nils | exact WC.nil rfl | exact WC.nilp | refine WC.fzA | exact WC.ptr rfl (Nat.le_of_ble_eq_true rfl) | exact WC.mpr rfl (Nat.le_of_ble_eq_true rfl) | refine WC.slA | refine WC.intA | refine WC.int ?_ | refine WC.boolA | refine WC.bool ?_ | refine WC.strA | refine WC.str ?_ | exact WC.imm rfl))
    · rintro k ⟨hk, hk2⟩
      have hsk := hs k
      conv => whnf
      repeat' ((first | refine Need.auto ?_ | refine Have.mk (fun _h => ?_)); conv => whnf)
      (first | refine Br.lt (fun h2 => ?_) (fun h2 => ?_) | refine Br.le (fun h2 => ?_) (fun h2 => ?_) | refine Br.gt (fun h2 => ?_) (fun h2 => ?_) | refine Br.ge (fun h2 => ?_) (fun h2 => ?_) | refine Br.eq (fun h2 => ?_) (fun h2 => ?_) | refine Br.ne (fun h2 => ?_) (fun h2 => ?_) | refine Br.not (fun h2 => ?_) (fun h2 => ?_) | refine Br.mk (fun h2 => ?_) (fun h2 => ?_)) <;> (try simp only [Int.toNat_natCast] at h2) <;> (conv => whnf)
      · repeat' ((first | refine Need.auto ?_ | refine Have.mk (fun _h => ?_)); conv => whnf)
        refine Dr.mk hΓ hMix (by kernel_rfl) ?_; conv => whnf
        repeat' ((first | refine Need.auto ?_ | refine Have.mk (fun _h => ?_)); conv => whnf)
        refine CallP.auto same08_body (same08_spec (a.getD k default) (b.getD k default) hsk ) ?_
        conv => whnf
        repeat' ((first | refine Need.auto ?_ | refine Have.mk (fun _h => ?_)); conv => whnf)
        by_cases e : a.getD k default = b.getD k default
        · refine Br.no (by simp only [e, decide_true, Bool.not_true]) ?_
          conv => whnf
          repeat' ((first | refine Need.auto ?_ | refine Have.mk (fun _h => ?_)); conv => whnf)
          have w0 := wrap_id (↑k + 1) (by omega) (by omega)
          refine ⟨k + 1, ⟨by omega, all_step hk2 e⟩, by omega, ?_⟩
          refine Mv.mkW ?_ ?_ (Nat.le_of_ble_eq_true rfl) <;> (repeat' (first | exact WA.nil | refine WA.cons rfl ?_ ?_ | exact WB.nil | refine WB.cons ?_ ?_ | exact WT.nil | refine WT.cons ?_ ?_ | exact WH.nil | refine WH.cons ?_ ?_ | exact WR.nil | refine WR.cons rfl ?_ ?_ | refine WO.vr ?_ | exact WO.dead | exact WO.mpS | refine WO.mpA ?_ | exact WO.arrP (fun i j => plainRow _ _ _) (by first | with_reducible rfl | assumption | (symm; assumption) | omega | (dsimp only; omega) | (rw [wrap_id _ (by omega) (by omega)]; first | rfl | omega | (push_cast; omega)) | rfl | (simp <;> fail)) | refine WO.arrA ?_ | exact WS.u | refine WS.c ?_ | refine WS.a ?_ | refine WS.t ?_ | exact WL.nil | refine WL.cons ?_ ?_ | exact WTL.nil | refine WTL.consC ?_ ?_ | refine WTL.consL ?_ ?_ | exact WC.nils | exact WC.nil rfl | exact WC.nilp | refine WC.fzA | exact WC.ptr rfl (Nat.le_of_ble_eq_true rfl) | exact WC.mpr rfl (Nat.le_of_ble_eq_true rfl) | refine WC.slA | refine WC.intA | refine WC.int ?_ | refine WC.boolA | refine WC.bool ?_ | refine WC.strA | refine WC.str ?_ | exact WC.imm rfl))
        · refine Br.yes (by simp only [e, decide_false, Bool.not_false]) ?_
          conv => whnf
          repeat' ((first | refine Need.auto ?_ | refine Have.mk (fun _h => ?_)); conv => whnf)
          rw [decide_eq_false (list_ne e)]
          refine RM.immW rfl ?_; (repeat' (first | exact WA.nil | refine WA.cons rfl ?_ ?_ | exact WB.nil | refine WB.cons ?_ ?_ | exact WT.nil | refine WT.cons ?_ ?_ | exact WH.nil | refine WH.cons ?_ ?_ | exact WR.nil | refine WR.cons rfl ?_ ?_ | refine WO.vr ?_ | exact WO.dead | exact WO.mpS | refine WO.mpA ?_ | exact WO.arrP (fun i j => plainRow _ _ _) (by first | with_reducible rfl | assumption | (symm; assumption) | omega | (dsimp only; omega) | (rw [wrap_id _ (by omega) (by omega)]; first | rfl | omega | (push_cast; omega)) | rfl | (simp <;> fail)) | refine WO.arrA ?_ | exact WS.u | refine WS.c ?_ | refine WS.a ?_ | refine WS.t ?_ | exact WL.nil | refine WL.cons ?_ ?_ | exact WTL.nil | refine WTL.consC ?_ ?_ | refine WTL.consL ?_ ?_ | exact WC.nils | exact WC.nil rfl | exact WC.nilp | refine WC.fzA | exact WC.ptr rfl (Nat.le_of_ble_eq_true rfl) | exact WC.mpr rfl (Nat.le_of_ble_eq_true rfl) | refine WC.slA | refine WC.intA | refine WC.int ?_ | refine WC.boolA | refine WC.bool ?_ | refine WC.strA | refine WC.str ?_ | exact WC.imm rfl))
      · repeat' ((first | refine Need.auto ?_ | refine Have.mk (fun _h => ?_)); conv => whnf)
        have e : a = b := list_eq (by omega) (fun i hi => hk2 i (by omega))
        rw [decide_eq_true e]
        refine RM.immW rfl ?_; (repeat' (first | exact WA.nil | refine WA.cons rfl ?_ ?_ | exact WB.nil | refine WB.cons ?_ ?_ | exact WT.nil | refine WT.cons ?_ ?_ | exact WH.nil | refine WH.cons ?_ ?_ | exact WR.nil | refine WR.cons rfl ?_ ?_ | refine WO.vr ?_ | exact WO.dead | exact WO.mpS | refine WO.mpA ?_ | exact WO.arrP (fun i j => plainRow _ _ _) (by first | with_reducible rfl | assumption | (symm; assumption) | omega | (dsimp only; omega) | (rw [wrap_id _ (by omega) (by omega)]; first | rfl | omega | (push_cast; omega)) | rfl | (simp <;> fail)) | refine WO.arrA ?_ | exact WS.u | refine WS.c ?_ | refine WS.a ?_ | refine WS.t ?_ | exact WL.nil | refine WL.cons ?_ ?_ | exact WTL.nil | refine WTL.consC ?_ ?_ | refine WTL.consL ?_ ?_ | exact WC.nils | exact WC.nil rfl | exact WC.nilp | refine WC.fzA | exact WC.ptr rfl (Nat.le_of_ble_eq_true rfl) | exact WC.mpr rfl (Nat.le_of_ble_eq_true rfl) | refine WC.slA | refine WC.intA | refine WC.int ?_ | refine WC.boolA | refine WC.bool ?_ | refine WC.strA | refine WC.str ?_ | exact WC.imm rfl))
theorem same09_body : HasBody Tryz.prog 79 := ⟨⟨Tryz.f79, Tryz.func79, rfl, by kernel_rfl⟩⟩
theorem same10_spec (a b c d : List Int) (ha : a.length ≤ 1000000) (hc : c.length ≤ 1000000) : PSpec Tryz.prog 80 [.a [intsC a, intsC c], .a [intsC b, intsC d]] (.c (.bool (decide (a = b ∧ c = d)))) := by
  refine PSpec.rm ?_
  refine CSpec.of_vc hΓ Tryz.func80 rfl 17 0 [.tmp 4] Tryz.ntmps80 rfl (by rw [Tryz.results80]) rfl ?_
  conv => whnf
  repeat' ((first | refine Need.auto ?_ | refine Have.mk (fun _h => ?_)); conv => whnf)
  refine CallN.pureA sameInts_body (sameInts_spec a b ha ) ?_
  conv => whnf
  repeat' ((first | refine Need.auto ?_ | refine Have.mk (fun _h => ?_)); conv => whnf)
  refine CallG.auto sameInts_body (fun _ => sameInts_spec c d hc ) ?_
  conv => whnf
  repeat' ((first | refine Need.auto ?_ | refine Have.mk (fun _h => ?_)); conv => whnf)
  refine RM.immW rfl ?_; (repeat' (first | exact WA.nil | refine WA.cons rfl ?_ ?_ | exact WB.nil | refine WB.cons ?_ ?_ | exact WT.nil | refine WT.cons ?_ ?_ | exact WH.nil | refine WH.cons ?_ ?_ | exact WR.nil | refine WR.cons rfl ?_ ?_ | refine WO.vr ?_ | exact WO.dead | exact WO.mpS | refine WO.mpA ?_ | exact WO.arrP (fun i j => plainRow _ _ _) (by first | with_reducible rfl | assumption | (symm; assumption) | omega | (dsimp only; omega) | (rw [wrap_id _ (by omega) (by omega)]; first | rfl | omega | (push_cast; omega)) | rfl | (simp <;> fail)) | refine WO.arrA ?_ | exact WS.u | refine WS.c ?_ | refine WS.a ?_ | refine WS.t ?_ | exact WL.nil | refine WL.cons ?_ ?_ | exact WTL.nil | refine WTL.consC ?_ ?_ | refine WTL.consL ?_ ?_ | exact WC.nils | exact WC.nil rfl | exact WC.nilp | refine WC.fzA | exact WC.ptr rfl (Nat.le_of_ble_eq_true rfl) | exact WC.mpr rfl (Nat.le_of_ble_eq_true rfl) | refine WC.slA | refine WC.intA | refine WC.int ?_ | refine WC.boolA | refine WC.bool ?_ | refine WC.strA | refine WC.str ?_ | exact WC.imm rfl))
theorem same10_body : HasBody Tryz.prog 80 := ⟨⟨Tryz.f80, Tryz.func80, rfl, by kernel_rfl⟩⟩
theorem same12_spec (g g' : Int) (a b : List Int) (c d : List Ret) (ha : a.length ≤ 1000000) (hc : c.length ≤ 1000000) : PSpec Tryz.prog 81 [.a [.int .i64 g, intsC a, retC c], .a [.int .i64 g', intsC b, retC d]] (.c (.bool (decide (g = g' ∧ a = b ∧ c = d)))) := by
  refine PSpec.rm ?_
  refine CSpec.of_vc hΓ Tryz.func81 rfl 66 0 [.tmp 4] Tryz.ntmps81 rfl (by rw [Tryz.results81]) rfl ?_
  conv => whnf
  repeat' ((first | refine Need.auto ?_ | refine Have.mk (fun _h => ?_)); conv => whnf)
  by_cases hc : g = g' ∧ a.length = b.length ∧ c.length = d.length
  · obtain ⟨h1, h3, h4⟩ := hc
    refine Br.no (by simp [h1, h3, h4]) ?_
    conv => whnf
    repeat' ((first | refine Need.auto ?_ | refine Have.mk (fun _h => ?_)); conv => whnf)
    refine Lp.mkK hΓ (ι := Nat) [2, 3] (fun i => [(5, .c (.int .i64 i))]) (fun _ => [.vr [.int .i64 g, intsC a, retC c], .vr [.int .i64 g', intsC b, retC d]]) (fun i => i ≤ a.length ∧ ∀ j, j < i → a.getD j default = b.getD j default) (fun i => a.length - i) 0 ⟨Nat.zero_le _, fun j hj => absurd hj (Nat.not_lt_zero _)⟩ ?_ ?_
    · refine Mv.mkW ?_ ?_ (Nat.le_of_ble_eq_true rfl) <;> (repeat' (first | exact WA.nil | refine WA.cons rfl ?_ ?_ | exact WB.nil | refine WB.cons ?_ ?_ | exact WT.nil | refine WT.cons ?_ ?_ | exact WH.nil | refine WH.cons ?_ ?_ | exact WR.nil | refine WR.cons rfl ?_ ?_ | refine WO.vr ?_ | exact WO.dead | exact WO.mpS | refine WO.mpA ?_ | exact WO.arrP (fun i j => plainRow _ _ _) (by first | with_reducible rfl | assumption | (symm; assumption) | omega | (dsimp only; omega) | (rw [wrap_id _ (by omega) (by omega)]; first | rfl | omega | (push_cast; omega)) | rfl | (simp <;> fail)) | refine WO.arrA ?_ | exact WS.u | refine WS.c ?_ | refine WS.a ?_ | refine WS.t ?_ | exact WL.nil | refine WL.cons ?_ ?_ | exact WTL.nil | refine WTL.consC ?_ ?_ | refine WTL.consL ?_ ?_ | exact WC.nils | exact WC.nil rfl | exact WC.nilp | refine WC.fzA | exact WC.ptr rfl (Nat.le_of_ble_eq_true rfl) | exact WC.mpr rfl (Nat.le_of_ble_eq_true rfl) | refine WC.slA | refine WC.intA | refine WC.int ?_ | refine WC.boolA | refine WC.bool ?_ | refine WC.strA | refine WC.str ?_ | exact WC.imm rfl))
    · rintro k ⟨hk, hk2⟩
      conv => whnf
      repeat' ((first | refine Need.auto ?_ | refine Have.mk (fun _h => ?_)); conv => whnf)
      (first | refine Br.lt (fun h2 => ?_) (fun h2 => ?_) | refine Br.le (fun h2 => ?_) (fun h2 => ?_) | refine Br.gt (fun h2 => ?_) (fun h2 => ?_) | refine Br.ge (fun h2 => ?_) (fun h2 => ?_) | refine Br.eq (fun h2 => ?_) (fun h2 => ?_) | refine Br.ne (fun h2 => ?_) (fun h2 => ?_) | refine Br.not (fun h2 => ?_) (fun h2 => ?_) | refine Br.mk (fun h2 => ?_) (fun h2 => ?_)) <;> (try simp only [Int.toNat_natCast] at h2) <;> (conv => whnf)
      · repeat' ((first | refine Need.auto ?_ | refine Have.mk (fun _h => ?_)); conv => whnf)
        refine Dr.mk hΓ hMix (by kernel_rfl) ?_; conv => whnf
        repeat' ((first | refine Need.auto ?_ | refine Have.mk (fun _h => ?_)); conv => whnf)
        by_cases e : a.getD k default = b.getD k default
        · refine Br.no ((eqInt (a.getD k default) (b.getD k default)).trans (by simp only [e, decide_true, Bool.not_true])) ?_
          conv => whnf
          repeat' ((first | refine Need.auto ?_ | refine Have.mk (fun _h => ?_)); conv => whnf)
          have w0 := wrap_id (↑k + 1) (by omega) (by omega)
          refine ⟨k + 1, ⟨by omega, all_step hk2 e⟩, by omega, ?_⟩
          refine Mv.mkW ?_ ?_ (Nat.le_of_ble_eq_true rfl) <;> (repeat' (first | exact WA.nil | refine WA.cons rfl ?_ ?_ | exact WB.nil | refine WB.cons ?_ ?_ | exact WT.nil | refine WT.cons ?_ ?_ | exact WH.nil | refine WH.cons ?_ ?_ | exact WR.nil | refine WR.cons rfl ?_ ?_ | refine WO.vr ?_ | exact WO.dead | exact WO.mpS | refine WO.mpA ?_ | exact WO.arrP (fun i j => plainRow _ _ _) (by first | with_reducible rfl | assumption | (symm; assumption) | omega | (dsimp only; omega) | (rw [wrap_id _ (by omega) (by omega)]; first | rfl | omega | (push_cast; omega)) | rfl | (simp <;> fail)) | refine WO.arrA ?_ | exact WS.u | refine WS.c ?_ | refine WS.a ?_ | refine WS.t ?_ | exact WL.nil | refine WL.cons ?_ ?_ | exact WTL.nil | refine WTL.consC ?_ ?_ | refine WTL.consL ?_ ?_ | exact WC.nils | exact WC.nil rfl | exact WC.nilp | refine WC.fzA | exact WC.ptr rfl (Nat.le_of_ble_eq_true rfl) | exact WC.mpr rfl (Nat.le_of_ble_eq_true rfl) | refine WC.slA | refine WC.intA | refine WC.int ?_ | refine WC.boolA | refine WC.bool ?_ | refine WC.strA | refine WC.str ?_ | exact WC.imm rfl))
        · refine Br.yes ((eqInt (a.getD k default) (b.getD k default)).trans (by simp only [e, decide_false, Bool.not_false])) ?_
          conv => whnf
          repeat' ((first | refine Need.auto ?_ | refine Have.mk (fun _h => ?_)); conv => whnf)
          rw [decide_eq_false (fun q => list_ne e q.2.1)]
          refine RM.immW rfl ?_; (repeat' (first | exact WA.nil | refine WA.cons rfl ?_ ?_ | exact WB.nil | refine WB.cons ?_ ?_ | exact WT.nil | refine WT.cons ?_ ?_ | exact WH.nil | refine WH.cons ?_ ?_ | exact WR.nil | refine WR.cons rfl ?_ ?_ | refine WO.vr ?_ | exact WO.dead | exact WO.mpS | refine WO.mpA ?_ | exact WO.arrP (fun i j => plainRow _ _ _) (by first | with_reducible rfl | assumption | (symm; assumption) | omega | (dsimp only; omega) | (rw [wrap_id _ (by omega) (by omega)]; first | rfl | omega | (push_cast; omega)) | rfl | (simp <;> fail)) | refine WO.arrA ?_ | exact WS.u | refine WS.c ?_ | refine WS.a ?_ | refine WS.t ?_ | exact WL.nil | refine WL.cons ?_ ?_ | exact WTL.nil | refine WTL.consC ?_ ?_ | refine WTL.consL ?_ ?_ | exact WC.nils | exact WC.nil rfl | exact WC.nilp | refine WC.fzA | exact WC.ptr rfl (Nat.le_of_ble_eq_true rfl) | exact WC.mpr rfl (Nat.le_of_ble_eq_true rfl) | refine WC.slA | refine WC.intA | refine WC.int ?_ | refine WC.boolA | refine WC.bool ?_ | refine WC.strA | refine WC.str ?_ | exact WC.imm rfl))
      · repeat' ((first | refine Need.auto ?_ | refine Have.mk (fun _h => ?_)); conv => whnf)
        have e6 : a = b := list_eq (by omega) (fun i hi => hk2 i (by omega))
        clear hk hk2 h2
        refine Lp.mkK hΓ (ι := Nat) [2, 3] (fun i => [(6, .c (.int .i64 i))]) (fun _ => [.vr [.int .i64 g, intsC a, retC c], .vr [.int .i64 g', intsC b, retC d]]) (fun i => i ≤ c.length ∧ ∀ j, j < i → c.getD j default = d.getD j default) (fun i => c.length - i) 0 ⟨Nat.zero_le _, fun j hj => absurd hj (Nat.not_lt_zero _)⟩ ?_ ?_
        · refine Mv.mkW ?_ ?_ (Nat.le_of_ble_eq_true rfl) <;> (repeat' (first | exact WA.nil | refine WA.cons rfl ?_ ?_ | exact WB.nil | refine WB.cons ?_ ?_ | exact WT.nil | refine WT.cons ?_ ?_ | exact WH.nil | refine WH.cons ?_ ?_ | exact WR.nil | refine WR.cons rfl ?_ ?_ | refine WO.vr ?_ | exact WO.dead | exact WO.mpS | refine WO.mpA ?_ | exact WO.arrP (fun i j => plainRow _ _ _) (by first | with_reducible rfl | assumption | (symm; assumption) | omega | (dsimp only; omega) | (rw [wrap_id _ (by omega) (by omega)]; first | rfl | omega | (push_cast; omega)) | rfl | (simp <;> fail)) | refine WO.arrA ?_ | exact WS.u | refine WS.c ?_ | refine WS.a ?_ | refine WS.t ?_ | exact WL.nil | refine WL.cons ?_ ?_ | exact WTL.nil | refine WTL.consC ?_ ?_ | refine WTL.consL ?_ ?_ | exact WC.nils | exact WC.nil rfl | exact WC.nilp | refine WC.fzA | exact WC.ptr rfl (Nat.le_of_ble_eq_true rfl) | exact WC.mpr rfl (Nat.le_of_ble_eq_true rfl) | refine WC.slA | refine WC.intA | refine WC.int ?_ | refine WC.boolA | refine WC.bool ?_ | refine WC.strA | refine WC.str ?_ | exact WC.imm rfl))
        · rintro k ⟨hk, hk2⟩
          conv => whnf
          repeat' ((first | refine Need.auto ?_ | refine Have.mk (fun _h => ?_)); conv => whnf)
          (first | refine Br.lt (fun h2 => ?_) (fun h2 => ?_) | refine Br.le (fun h2 => ?_) (fun h2 => ?_) | refine Br.gt (fun h2 => ?_) (fun h2 => ?_) | refine Br.ge (fun h2 => ?_) (fun h2 => ?_) | refine Br.eq (fun h2 => ?_) (fun h2 => ?_) | refine Br.ne (fun h2 => ?_) (fun h2 => ?_) | refine Br.not (fun h2 => ?_) (fun h2 => ?_) | refine Br.mk (fun h2 => ?_) (fun h2 => ?_)) <;> (try simp only [Int.toNat_natCast] at h2) <;> (conv => whnf)
          · repeat' ((first | refine Need.auto ?_ | refine Have.mk (fun _h => ?_)); conv => whnf)
            refine Dr.mk hΓ hMix (by kernel_rfl) ?_; conv => whnf
            repeat' ((first | refine Need.auto ?_ | refine Have.mk (fun _h => ?_)); conv => whnf)
            by_cases e : c.getD k default = d.getD k default
            · refine Br.no ((eqRet (c.getD k default) (d.getD k default)).trans (by simp only [e, decide_true, Bool.not_true])) ?_
              conv => whnf
              repeat' ((first | refine Need.auto ?_ | refine Have.mk (fun _h => ?_)); conv => whnf)
              have w0 := wrap_id (↑k + 1) (by omega) (by omega)
              refine ⟨k + 1, ⟨by omega, all_step hk2 e⟩, by omega, ?_⟩
              refine Mv.mkW ?_ ?_ (Nat.le_of_ble_eq_true rfl) <;> (repeat' (first | exact WA.nil | refine WA.cons rfl ?_ ?_ | exact WB.nil | refine WB.cons ?_ ?_ | exact WT.nil | refine WT.cons ?_ ?_ | exact WH.nil | refine WH.cons ?_ ?_ | exact WR.nil | refine WR.cons rfl ?_ ?_ | refine WO.vr ?_ | exact WO.dead | exact WO.mpS | refine WO.mpA ?_ | exact WO.arrP (fun i j => plainRow _ _ _) (by first | with_reducible rfl | assumption | (symm; assumption) | omega | (dsimp only; omega) | (rw [wrap_id _ (by omega) (by omega)]; first | rfl | omega | (push_cast; omega)) | rfl | (simp <;> fail)) | refine WO.arrA ?_ | exact WS.u | refine WS.c ?_ | refine WS.a ?_ | refine WS.t ?_ | exact WL.nil | refine WL.cons ?_ ?_ | exact WTL.nil | refine WTL.consC ?_ ?_ | refine WTL.consL ?_ ?_ | exact WC.nils | exact WC.nil rfl | exact WC.nilp | refine WC.fzA | exact WC.ptr rfl (Nat.le_of_ble_eq_true rfl) | exact WC.mpr rfl (Nat.le_of_ble_eq_true rfl) | refine WC.slA | refine WC.intA | refine WC.int ?_ | refine WC.boolA | refine WC.bool ?_ | refine WC.strA | refine WC.str ?_ | exact WC.imm rfl))
            · refine Br.yes ((eqRet (c.getD k default) (d.getD k default)).trans (by simp only [e, decide_false, Bool.not_false])) ?_
              conv => whnf
              repeat' ((first | refine Need.auto ?_ | refine Have.mk (fun _h => ?_)); conv => whnf)
              rw [decide_eq_false (fun q => list_ne e q.2.2)]
              refine RM.immW rfl ?_; (repeat' (first | exact WA.nil | refine WA.cons rfl ?_ ?_ | exact WB.nil | refine WB.cons ?_ ?_ | exact WT.nil | refine WT.cons ?_ ?_ | exact WH.nil | refine WH.cons ?_ ?_ | exact WR.nil | refine WR.cons rfl ?_ ?_ | refine WO.vr ?_ | exact WO.dead | exact WO.mpS | refine WO.mpA ?_ | exact WO.arrP (fun i j => plainRow _ _ _) (by first | with_reducible rfl | assumption | (symm; assumption) | omega | (dsimp only; omega) | (rw [wrap_id _ (by omega) (by omega)]; first | rfl | omega | (push_cast; omega)) | rfl | (simp <;> fail)) | refine WO.arrA ?_ | exact WS.u | refine WS.c ?_ | refine WS.a ?_ | refine WS.t ?_ | exact WL.nil | refine WL.cons ?_ ?_ | exact WTL.nil | refine WTL.consC ?_ ?_ | refine WTL.consL ?_ ?_ | exact WC.nils | exact WC.nil rfl | exact WC.nilp | refine WC.fzA | exact WC.ptr rfl (Nat.le_of_ble_eq_true rfl) | exact WC.mpr rfl (Nat.le_of_ble_eq_true rfl) | refine WC.slA | refine WC.intA | refine WC.int ?_ | refine WC.boolA | refine WC.bool ?_ | refine WC.strA | refine WC.str ?_ | exact WC.imm rfl))
          · repeat' ((first | refine Need.auto ?_ | refine Have.mk (fun _h => ?_)); conv => whnf)
            have e11 : c = d := list_eq (by omega) (fun i hi => hk2 i (by omega))
            clear hk hk2 h2
            rw [decide_eq_true ⟨h1, e6, e11⟩]
            refine RM.immW rfl ?_; (repeat' (first | exact WA.nil | refine WA.cons rfl ?_ ?_ | exact WB.nil | refine WB.cons ?_ ?_ | exact WT.nil | refine WT.cons ?_ ?_ | exact WH.nil | refine WH.cons ?_ ?_ | exact WR.nil | refine WR.cons rfl ?_ ?_ | refine WO.vr ?_ | exact WO.dead | exact WO.mpS | refine WO.mpA ?_ | exact WO.arrP (fun i j => plainRow _ _ _) (by first | with_reducible rfl | assumption | (symm; assumption) | omega | (dsimp only; omega) | (rw [wrap_id _ (by omega) (by omega)]; first | rfl | omega | (push_cast; omega)) | rfl | (simp <;> fail)) | refine WO.arrA ?_ | exact WS.u | refine WS.c ?_ | refine WS.a ?_ | refine WS.t ?_ | exact WL.nil | refine WL.cons ?_ ?_ | exact WTL.nil | refine WTL.consC ?_ ?_ | refine WTL.consL ?_ ?_ | exact WC.nils | exact WC.nil rfl | exact WC.nilp | refine WC.fzA | exact WC.ptr rfl (Nat.le_of_ble_eq_true rfl) | exact WC.mpr rfl (Nat.le_of_ble_eq_true rfl) | refine WC.slA | refine WC.intA | refine WC.int ?_ | refine WC.boolA | refine WC.bool ?_ | refine WC.strA | refine WC.str ?_ | exact WC.imm rfl))
  · refine Br.yes (by by_cases x : g = g' <;> by_cases y : a.length = b.length <;> by_cases z : c.length = d.length <;> simp_all <;> omega) ?_
    conv => whnf
    repeat' ((first | refine Need.auto ?_ | refine Have.mk (fun _h => ?_)); conv => whnf)
    rw [decide_eq_false (fun e => hc ⟨e.1, by rw [e.2.1], by rw [e.2.2]⟩)]
    refine RM.immW rfl ?_; (repeat' (first | exact WA.nil | refine WA.cons rfl ?_ ?_ | exact WB.nil | refine WB.cons ?_ ?_ | exact WT.nil | refine WT.cons ?_ ?_ | exact WH.nil | refine WH.cons ?_ ?_ | exact WR.nil | refine WR.cons rfl ?_ ?_ | refine WO.vr ?_ | exact WO.dead | exact WO.mpS | refine WO.mpA ?_ | exact WO.arrP (fun i j => plainRow _ _ _) (by first | with_reducible rfl | assumption | (symm; assumption) | omega | (dsimp only; omega) | (rw [wrap_id _ (by omega) (by omega)]; first | rfl | omega | (push_cast; omega)) | rfl | (simp <;> fail)) | refine WO.arrA ?_ | exact WS.u | refine WS.c ?_ | refine WS.a ?_ | refine WS.t ?_ | exact WL.nil | refine WL.cons ?_ ?_ | exact WTL.nil | refine WTL.consC ?_ ?_ | refine WTL.consL ?_ ?_ | exact WC.nils | exact WC.nil rfl | exact WC.nilp | refine WC.fzA | exact WC.ptr rfl (Nat.le_of_ble_eq_true rfl) | exact WC.mpr rfl (Nat.le_of_ble_eq_true rfl) | refine WC.slA | refine WC.intA | refine WC.int ?_ | refine WC.boolA | refine WC.bool ?_ | refine WC.strA | refine WC.str ?_ | exact WC.imm rfl))
theorem same12_body : HasBody Tryz.prog 81 := ⟨⟨Tryz.f81, Tryz.func81, rfl, by kernel_rfl⟩⟩
theorem same13_spec (a b : List Int) (h l h' l' : Int) (ha : a.length ≤ 1000000) : PSpec Tryz.prog 82 [.a [intsC a, .int .i64 h, .int .i64 l], .a [intsC b, .int .i64 h', .int .i64 l']] (.c (.bool (decide (h = h' ∧ l = l' ∧ a = b)))) := by
  refine PSpec.rm ?_
  refine CSpec.of_vc hΓ Tryz.func82 rfl 45 0 [.tmp 4] Tryz.ntmps82 rfl (by rw [Tryz.results82]) rfl ?_
  conv => whnf
  repeat' ((first | refine Need.auto ?_ | refine Have.mk (fun _h => ?_)); conv => whnf)
  by_cases hc : h = h' ∧ l = l' ∧ a.length = b.length
  · obtain ⟨h1, h3, h4⟩ := hc
    refine Br.no (by simp [h1, h3, h4]) ?_
    conv => whnf
    repeat' ((first | refine Need.auto ?_ | refine Have.mk (fun _h => ?_)); conv => whnf)
    refine Lp.mkK hΓ (ι := Nat) [2, 3] (fun i => [(5, .c (.int .i64 i))]) (fun _ => [.vr [intsC a, .int .i64 h, .int .i64 l], .vr [intsC b, .int .i64 h', .int .i64 l']]) (fun i => i ≤ a.length ∧ ∀ j, j < i → a.getD j default = b.getD j default) (fun i => a.length - i) 0 ⟨Nat.zero_le _, fun j hj => absurd hj (Nat.not_lt_zero _)⟩ ?_ ?_
    · refine Mv.mkW ?_ ?_ (Nat.le_of_ble_eq_true rfl) <;> (repeat' (first | exact WA.nil | refine WA.cons rfl ?_ ?_ | exact WB.nil | refine WB.cons ?_ ?_ | exact WT.nil | refine WT.cons ?_ ?_ | exact WH.nil | refine WH.cons ?_ ?_ | exact WR.nil | refine WR.cons rfl ?_ ?_ | refine WO.vr ?_ | exact WO.dead | exact WO.mpS | refine WO.mpA ?_ | exact WO.arrP (fun i j => plainRow _ _ _) (by first | with_reducible rfl | assumption | (symm; assumption) | omega | (dsimp only; omega) | (rw [wrap_id _ (by omega) (by omega)]; first | rfl | omega | (push_cast; omega)) | rfl | (simp <;> fail)) | refine WO.arrA ?_ | exact WS.u | refine WS.c ?_ | refine WS.a ?_ | refine WS.t ?_ | exact WL.nil | refine WL.cons ?_ ?_ | exact WTL.nil | refine WTL.consC ?_ ?_ | refine WTL.consL ?_ ?_ | exact WC.nils | exact WC.nil rfl | exact WC.nilp | refine WC.fzA | exact WC.ptr rfl (Nat.le_of_ble_eq_true rfl) | exact WC.mpr rfl (Nat.le_of_ble_eq_true rfl) | refine WC.slA | refine WC.intA | refine WC.int ?_ | refine WC.boolA | refine WC.bool ?_ | refine WC.strA | refine WC.str ?_ | exact WC.imm rfl))
    · rintro k ⟨hk, hk2⟩
      conv => whnf
      repeat' ((first | refine Need.auto ?_ | refine Have.mk (fun _h => ?_)); conv => whnf)
      (first | refine Br.lt (fun h2 => ?_) (fun h2 => ?_) | refine Br.le (fun h2 => ?_) (fun h2 => ?_) | refine Br.gt (fun h2 => ?_) (fun h2 => ?_) | refine Br.ge (fun h2 => ?_) (fun h2 => ?_) | refine Br.eq (fun h2 => ?_) (fun h2 => ?_) | refine Br.ne (fun h2 => ?_) (fun h2 => ?_) | refine Br.not (fun h2 => ?_) (fun h2 => ?_) | refine Br.mk (fun h2 => ?_) (fun h2 => ?_)) <;> (try simp only [Int.toNat_natCast] at h2) <;> (conv => whnf)
      · repeat' ((first | refine Need.auto ?_ | refine Have.mk (fun _h => ?_)); conv => whnf)
        refine Dr.mk hΓ hMix (by kernel_rfl) ?_; conv => whnf
        repeat' ((first | refine Need.auto ?_ | refine Have.mk (fun _h => ?_)); conv => whnf)
        by_cases e : a.getD k default = b.getD k default
        · refine Br.no ((eqInt (a.getD k default) (b.getD k default)).trans (by simp only [e, decide_true, Bool.not_true])) ?_
          conv => whnf
          repeat' ((first | refine Need.auto ?_ | refine Have.mk (fun _h => ?_)); conv => whnf)
          have w0 := wrap_id (↑k + 1) (by omega) (by omega)
          refine ⟨k + 1, ⟨by omega, all_step hk2 e⟩, by omega, ?_⟩
          refine Mv.mkW ?_ ?_ (Nat.le_of_ble_eq_true rfl) <;> (repeat' (first | exact WA.nil | refine WA.cons rfl ?_ ?_ | exact WB.nil | refine WB.cons ?_ ?_ | exact WT.nil | refine WT.cons ?_ ?_ | exact WH.nil | refine WH.cons ?_ ?_ | exact WR.nil | refine WR.cons rfl ?_ ?_ | refine WO.vr ?_ | exact WO.dead | exact WO.mpS | refine WO.mpA ?_ | exact WO.arrP (fun i j => plainRow _ _ _) (by first | with_reducible rfl | assumption | (symm; assumption) | omega | (dsimp only; omega) | (rw [wrap_id _ (by omega) (by omega)]; first | rfl | omega | (push_cast; omega)) | rfl | (simp <;> fail)) | refine WO.arrA ?_ | exact WS.u | refine WS.c ?_ | refine WS.a ?_ | refine WS.t ?_ | exact WL.nil | refine WL.cons ?_ ?_ | exact WTL.nil | refine WTL.consC ?_ ?_ | refine WTL.consL ?_ ?_ | exact WC.nils | exact WC.nil rfl | exact WC.nilp | refine WC.fzA | exact WC.ptr rfl (Nat.le_of_ble_eq_true rfl) | exact WC.mpr rfl (Nat.le_of_ble_eq_true rfl) | refine WC.slA | refine WC.intA | refine WC.int ?_ | refine WC.boolA | refine WC.bool ?_ | refine WC.strA | refine WC.str ?_ | exact WC.imm rfl))
        · refine Br.yes ((eqInt (a.getD k default) (b.getD k default)).trans (by simp only [e, decide_false, Bool.not_false])) ?_
          conv => whnf
          repeat' ((first | refine Need.auto ?_ | refine Have.mk (fun _h => ?_)); conv => whnf)
          rw [decide_eq_false (fun q => list_ne e q.2.2)]
          refine RM.immW rfl ?_; (repeat' (first | exact WA.nil | refine WA.cons rfl ?_ ?_ | exact WB.nil | refine WB.cons ?_ ?_ | exact WT.nil | refine WT.cons ?_ ?_ | exact WH.nil | refine WH.cons ?_ ?_ | exact WR.nil | refine WR.cons rfl ?_ ?_ | refine WO.vr ?_ | exact WO.dead | exact WO.mpS | refine WO.mpA ?_ | exact WO.arrP (fun i j => plainRow _ _ _) (by first | with_reducible rfl | assumption | (symm; assumption) | omega | (dsimp only; omega) | (rw [wrap_id _ (by omega) (by omega)]; first | rfl | omega | (push_cast; omega)) | rfl | (simp <;> fail)) | refine WO.arrA ?_ | exact WS.u | refine WS.c ?_ | refine WS.a ?_ | refine WS.t ?_ | exact WL.nil | refine WL.cons ?_ ?_ | exact WTL.nil | refine WTL.consC ?_ ?_ | refine WTL.consL ?_ ?_ | exact WC.nils | exact WC.nil rfl | exact WC.nilp | refine WC.fzA | exact WC.ptr rfl (Nat.le_of_ble_eq_true rfl) | exact WC.mpr rfl (Nat.le_of_ble_eq_true rfl) | refine WC.slA | refine WC.intA | refine WC.int ?_ | refine WC.boolA | refine WC.bool ?_ | refine WC.strA | refine WC.str ?_ | exact WC.imm rfl))
      · repeat' ((first | refine Need.auto ?_ | refine Have.mk (fun _h => ?_)); conv => whnf)
        have e6 : a = b := list_eq (by omega) (fun i hi => hk2 i (by omega))
        clear hk hk2 h2
        rw [decide_eq_true ⟨h1, h3, e6⟩]
        refine RM.immW rfl ?_; (repeat' (first | exact WA.nil | refine WA.cons rfl ?_ ?_ | exact WB.nil | refine WB.cons ?_ ?_ | exact WT.nil | refine WT.cons ?_ ?_ | exact WH.nil | refine WH.cons ?_ ?_ | exact WR.nil | refine WR.cons rfl ?_ ?_ | refine WO.vr ?_ | exact WO.dead | exact WO.mpS | refine WO.mpA ?_ | exact WO.arrP (fun i j => plainRow _ _ _) (by first | with_reducible rfl | assumption | (symm; assumption) | omega | (dsimp only; omega) | (rw [wrap_id _ (by omega) (by omega)]; first | rfl | omega | (push_cast; omega)) | rfl | (simp <;> fail)) | refine WO.arrA ?_ | exact WS.u | refine WS.c ?_ | refine WS.a ?_ | refine WS.t ?_ | exact WL.nil | refine WL.cons ?_ ?_ | exact WTL.nil | refine WTL.consC ?_ ?_ | refine WTL.consL ?_ ?_ | exact WC.nils | exact WC.nil rfl | exact WC.nilp | refine WC.fzA | exact WC.ptr rfl (Nat.le_of_ble_eq_true rfl) | exact WC.mpr rfl (Nat.le_of_ble_eq_true rfl) | refine WC.slA | refine WC.intA | refine WC.int ?_ | refine WC.boolA | refine WC.bool ?_ | refine WC.strA | refine WC.str ?_ | exact WC.imm rfl))
  · refine Br.yes (by by_cases x : h = h' <;> by_cases y : l = l' <;> by_cases z : a.length = b.length <;> simp_all <;> omega) ?_
    conv => whnf
    repeat' ((first | refine Need.auto ?_ | refine Have.mk (fun _h => ?_)); conv => whnf)
    rw [decide_eq_false (fun e => hc ⟨e.1, e.2.1, by rw [e.2.2]⟩)]
    refine RM.immW rfl ?_; (repeat' (first | exact WA.nil | refine WA.cons rfl ?_ ?_ | exact WB.nil | refine WB.cons ?_ ?_ | exact WT.nil | refine WT.cons ?_ ?_ | exact WH.nil | refine WH.cons ?_ ?_ | exact WR.nil | refine WR.cons rfl ?_ ?_ | refine WO.vr ?_ | exact WO.dead | exact WO.mpS | refine WO.mpA ?_ | exact WO.arrP (fun i j => plainRow _ _ _) (by first | with_reducible rfl | assumption | (symm; assumption) | omega | (dsimp only; omega) | (rw [wrap_id _ (by omega) (by omega)]; first | rfl | omega | (push_cast; omega)) | rfl | (simp <;> fail)) | refine WO.arrA ?_ | exact WS.u | refine WS.c ?_ | refine WS.a ?_ | refine WS.t ?_ | exact WL.nil | refine WL.cons ?_ ?_ | exact WTL.nil | refine WTL.consC ?_ ?_ | refine WTL.consL ?_ ?_ | exact WC.nils | exact WC.nil rfl | exact WC.nilp | refine WC.fzA | exact WC.ptr rfl (Nat.le_of_ble_eq_true rfl) | exact WC.mpr rfl (Nat.le_of_ble_eq_true rfl) | refine WC.slA | refine WC.intA | refine WC.int ?_ | refine WC.boolA | refine WC.bool ?_ | refine WC.strA | refine WC.str ?_ | exact WC.imm rfl))
theorem same13_body : HasBody Tryz.prog 82 := ⟨⟨Tryz.f82, Tryz.func82, rfl, by kernel_rfl⟩⟩
theorem same16_spec (a b : Rng) (ha : a.items.length ≤ 1000000) : PSpec Tryz.prog 83 [.a a.cells, .a b.cells] (.c (.bool (decide (a = b)))) := by
  refine PSpec.rm ?_
  refine CSpec.of_vc hΓ Tryz.func83 rfl 38 0 [.tmp 4] Tryz.ntmps83 rfl (by rw [Tryz.results83]) rfl ?_
  conv => whnf
  repeat' ((first | refine Need.auto ?_ | refine Have.mk (fun _h => ?_)); conv => whnf)
  by_cases hc : a.depth = b.depth ∧ a.items.length = b.items.length
  · obtain ⟨h1, h3⟩ := hc
    refine Br.no (by simp [h1, h3]) ?_
    conv => whnf
    repeat' ((first | refine Need.auto ?_ | refine Have.mk (fun _h => ?_)); conv => whnf)
    refine Lp.mkK hΓ (ι := Nat) [2, 3] (fun i => [(5, .c (.int .i64 i))]) (fun _ => [.vr a.cells, .vr b.cells]) (fun i => i ≤ a.items.length ∧ ∀ j, j < i → a.items.getD j default = b.items.getD j default) (fun i => a.items.length - i) 0 ⟨Nat.zero_le _, fun j hj => absurd hj (Nat.not_lt_zero _)⟩ ?_ ?_
    · refine Mv.mkW ?_ ?_ (Nat.le_of_ble_eq_true rfl) <;> (repeat' (first | exact WA.nil | refine WA.cons rfl ?_ ?_ | exact WB.nil | refine WB.cons ?_ ?_ | exact WT.nil | refine WT.cons ?_ ?_ | exact WH.nil | refine WH.cons ?_ ?_ | exact WR.nil | refine WR.cons rfl ?_ ?_ | refine WO.vr ?_ | exact WO.dead | exact WO.mpS | refine WO.mpA ?_ | exact WO.arrP (fun i j => plainRow _ _ _) (by first | with_reducible rfl | assumption | (symm; assumption) | omega | (dsimp only; omega) | (rw [wrap_id _ (by omega) (by omega)]; first | rfl | omega | (push_cast; omega)) | rfl | (simp <;> fail)) | refine WO.arrA ?_ | exact WS.u | refine WS.c ?_ | refine WS.a ?_ | refine WS.t ?_ | exact WL.nil | refine WL.cons ?_ ?_ | exact WTL.nil | refine WTL.consC ?_ ?_ | refine WTL.consL ?_ ?_ | exact WC.nils | exact WC.nil rfl | exact WC.nilp | refine WC.fzA | exact WC.ptr rfl (Nat.le_of_ble_eq_true rfl) | exact WC.mpr rfl (Nat.le_of_ble_eq_true rfl) | refine WC.slA | refine WC.intA | refine WC.int ?_ | refine WC.boolA | refine WC.bool ?_ | refine WC.strA | refine WC.str ?_ | exact WC.imm rfl))
    · rintro k ⟨hk, hk2⟩
      conv => whnf
      repeat' ((first | refine Need.auto ?_ | refine Have.mk (fun _h => ?_)); conv => whnf)
      (first | refine Br.lt (fun h2 => ?_) (fun h2 => ?_) | refine Br.le (fun h2 => ?_) (fun h2 => ?_) | refine Br.gt (fun h2 => ?_) (fun h2 => ?_) | refine Br.ge (fun h2 => ?_) (fun h2 => ?_) | refine Br.eq (fun h2 => ?_) (fun h2 => ?_) | refine Br.ne (fun h2 => ?_) (fun h2 => ?_) | refine Br.not (fun h2 => ?_) (fun h2 => ?_) | refine Br.mk (fun h2 => ?_) (fun h2 => ?_)) <;> (try simp only [Int.toNat_natCast] at h2) <;> (conv => whnf)
      · repeat' ((first | refine Need.auto ?_ | refine Have.mk (fun _h => ?_)); conv => whnf)
        refine Dr.mk hΓ hMix (by kernel_rfl) ?_; conv => whnf
        repeat' ((first | refine Need.auto ?_ | refine Have.mk (fun _h => ?_)); conv => whnf)
        by_cases e : a.items.getD k default = b.items.getD k default
        · refine Br.no ((eqReq (a.items.getD k default) (b.items.getD k default)).trans (by simp only [e, decide_true, Bool.not_true])) ?_
          conv => whnf
          repeat' ((first | refine Need.auto ?_ | refine Have.mk (fun _h => ?_)); conv => whnf)
          have w0 := wrap_id (↑k + 1) (by omega) (by omega)
          refine ⟨k + 1, ⟨by omega, all_step hk2 e⟩, by omega, ?_⟩
          refine Mv.mkW ?_ ?_ (Nat.le_of_ble_eq_true rfl) <;> (repeat' (first | exact WA.nil | refine WA.cons rfl ?_ ?_ | exact WB.nil | refine WB.cons ?_ ?_ | exact WT.nil | refine WT.cons ?_ ?_ | exact WH.nil | refine WH.cons ?_ ?_ | exact WR.nil | refine WR.cons rfl ?_ ?_ | refine WO.vr ?_ | exact WO.dead | exact WO.mpS | refine WO.mpA ?_ | exact WO.arrP (fun i j => plainRow _ _ _) (by first | with_reducible rfl | assumption | (symm; assumption) | omega | (dsimp only; omega) | (rw [wrap_id _ (by omega) (by omega)]; first | rfl | omega | (push_cast; omega)) | rfl | (simp <;> fail)) | refine WO.arrA ?_ | exact WS.u | refine WS.c ?_ | refine WS.a ?_ | refine WS.t ?_ | exact WL.nil | refine WL.cons ?_ ?_ | exact WTL.nil | refine WTL.consC ?_ ?_ | refine WTL.consL ?_ ?_ | exact WC.nils | exact WC.nil rfl | exact WC.nilp | refine WC.fzA | exact WC.ptr rfl (Nat.le_of_ble_eq_true rfl) | exact WC.mpr rfl (Nat.le_of_ble_eq_true rfl) | refine WC.slA | refine WC.intA | refine WC.int ?_ | refine WC.boolA | refine WC.bool ?_ | refine WC.strA | refine WC.str ?_ | exact WC.imm rfl))
        · refine Br.yes ((eqReq (a.items.getD k default) (b.items.getD k default)).trans (by simp only [e, decide_false, Bool.not_false])) ?_
          conv => whnf
          repeat' ((first | refine Need.auto ?_ | refine Have.mk (fun _h => ?_)); conv => whnf)
          rw [decide_eq_false (fun q => list_ne e (by rw [q]))]
          refine RM.immW rfl ?_; (repeat' (first | exact WA.nil | refine WA.cons rfl ?_ ?_ | exact WB.nil | refine WB.cons ?_ ?_ | exact WT.nil | refine WT.cons ?_ ?_ | exact WH.nil | refine WH.cons ?_ ?_ | exact WR.nil | refine WR.cons rfl ?_ ?_ | refine WO.vr ?_ | exact WO.dead | exact WO.mpS | refine WO.mpA ?_ | exact WO.arrP (fun i j => plainRow _ _ _) (by first | with_reducible rfl | assumption | (symm; assumption) | omega | (dsimp only; omega) | (rw [wrap_id _ (by omega) (by omega)]; first | rfl | omega | (push_cast; omega)) | rfl | (simp <;> fail)) | refine WO.arrA ?_ | exact WS.u | refine WS.c ?_ | refine WS.a ?_ | refine WS.t ?_ | exact WL.nil | refine WL.cons ?_ ?_ | exact WTL.nil | refine WTL.consC ?_ ?_ | refine WTL.consL ?_ ?_ | exact WC.nils | exact WC.nil rfl | exact WC.nilp | refine WC.fzA | exact WC.ptr rfl (Nat.le_of_ble_eq_true rfl) | exact WC.mpr rfl (Nat.le_of_ble_eq_true rfl) | refine WC.slA | refine WC.intA | refine WC.int ?_ | refine WC.boolA | refine WC.bool ?_ | refine WC.strA | refine WC.str ?_ | exact WC.imm rfl))
      · repeat' ((first | refine Need.auto ?_ | refine Have.mk (fun _h => ?_)); conv => whnf)
        have e6 : a.items = b.items := list_eq (by omega) (fun i hi => hk2 i (by omega))
        clear hk hk2 h2
        have e : a = b := by cases a; cases b; simp_all
        rw [decide_eq_true e]
        refine RM.immW rfl ?_; (repeat' (first | exact WA.nil | refine WA.cons rfl ?_ ?_ | exact WB.nil | refine WB.cons ?_ ?_ | exact WT.nil | refine WT.cons ?_ ?_ | exact WH.nil | refine WH.cons ?_ ?_ | exact WR.nil | refine WR.cons rfl ?_ ?_ | refine WO.vr ?_ | exact WO.dead | exact WO.mpS | refine WO.mpA ?_ | exact WO.arrP (fun i j => plainRow _ _ _) (by first | with_reducible rfl | assumption | (symm; assumption) | omega | (dsimp only; omega) | (rw [wrap_id _ (by omega) (by omega)]; first | rfl | omega | (push_cast; omega)) | rfl | (simp <;> fail)) | refine WO.arrA ?_ | exact WS.u | refine WS.c ?_ | refine WS.a ?_ | refine WS.t ?_ | exact WL.nil | refine WL.cons ?_ ?_ | exact WTL.nil | refine WTL.consC ?_ ?_ | refine WTL.consL ?_ ?_ | exact WC.nils | exact WC.nil rfl | exact WC.nilp | refine WC.fzA | exact WC.ptr rfl (Nat.le_of_ble_eq_true rfl) | exact WC.mpr rfl (Nat.le_of_ble_eq_true rfl) | refine WC.slA | refine WC.intA | refine WC.int ?_ | refine WC.boolA | refine WC.bool ?_ | refine WC.strA | refine WC.str ?_ | exact WC.imm rfl))
  · refine Br.yes (by by_cases x : a.depth = b.depth <;> by_cases y : a.items.length = b.items.length <;> simp_all <;> omega) ?_
    conv => whnf
    repeat' ((first | refine Need.auto ?_ | refine Have.mk (fun _h => ?_)); conv => whnf)
    rw [decide_eq_false (fun e => hc ⟨by rw [e], by rw [e]⟩)]
    refine RM.immW rfl ?_; (repeat' (first | exact WA.nil | refine WA.cons rfl ?_ ?_ | exact WB.nil | refine WB.cons ?_ ?_ | exact WT.nil | refine WT.cons ?_ ?_ | exact WH.nil | refine WH.cons ?_ ?_ | exact WR.nil | refine WR.cons rfl ?_ ?_ | refine WO.vr ?_ | exact WO.dead | exact WO.mpS | refine WO.mpA ?_ | exact WO.arrP (fun i j => plainRow _ _ _) (by first | with_reducible rfl | assumption | (symm; assumption) | omega | (dsimp only; omega) | (rw [wrap_id _ (by omega) (by omega)]; first | rfl | omega | (push_cast; omega)) | rfl | (simp <;> fail)) | refine WO.arrA ?_ | exact WS.u | refine WS.c ?_ | refine WS.a ?_ | refine WS.t ?_ | exact WL.nil | refine WL.cons ?_ ?_ | exact WTL.nil | refine WTL.consC ?_ ?_ | refine WTL.consL ?_ ?_ | exact WC.nils | exact WC.nil rfl | exact WC.nilp | refine WC.fzA | exact WC.ptr rfl (Nat.le_of_ble_eq_true rfl) | exact WC.mpr rfl (Nat.le_of_ble_eq_true rfl) | refine WC.slA | refine WC.intA | refine WC.int ?_ | refine WC.boolA | refine WC.bool ?_ | refine WC.strA | refine WC.str ?_ | exact WC.imm rfl))
theorem same16_body : HasBody Tryz.prog 83 := ⟨⟨Tryz.f83, Tryz.func83, rfl, by kernel_rfl⟩⟩
def Sav.cells (s : Sav) : List C := [.int .i64 s.state, .int .i64 s.done, .int .i64 s.slot, .int .i64 s.seq, .int .i64 s.next, .int .i64 s.cut, entsC s.ents, recsC s.recs]
theorem sameSav_spec (a b : Sav) (ha : a.ents.length ≤ 1000000) (hr : a.recs.length ≤ 1000000) : PSpec Tryz.prog 84 [.a a.cells, .a b.cells] (.c (.bool (decide (a = b)))) := by
  refine PSpec.rm ?_
  refine CSpec.of_vc hΓ Tryz.func84 rfl 112 0 [.tmp 4] Tryz.ntmps84 rfl (by rw [Tryz.results84]) rfl ?_
  conv => whnf
  repeat' ((first | refine Need.auto ?_ | refine Have.mk (fun _h => ?_)); conv => whnf)
  by_cases hc : a.state = b.state ∧ a.done = b.done ∧ a.slot = b.slot ∧ a.seq = b.seq ∧ a.next = b.next ∧ a.cut = b.cut ∧ a.ents.length = b.ents.length ∧ a.recs.length = b.recs.length
  · obtain ⟨h1, h2, h3, h4, h5, h6, h7, h8⟩ := hc
    refine Br.no (by simp [h1, h2, h3, h4, h5, h6, h7, h8]) ?_
    conv => whnf
    repeat' ((first | refine Need.auto ?_ | refine Have.mk (fun _h => ?_)); conv => whnf)
    refine Lp.mkK hΓ (ι := Nat) [2, 3] (fun i => [(5, .c (.int .i64 i))]) (fun _ => [.vr a.cells, .vr b.cells]) (fun i => i ≤ a.ents.length ∧ ∀ j, j < i → a.ents.getD j default = b.ents.getD j default) (fun i => a.ents.length - i) 0 ⟨Nat.zero_le _, fun j hj => absurd hj (Nat.not_lt_zero _)⟩ ?_ ?_
    · refine Mv.mkW ?_ ?_ (Nat.le_of_ble_eq_true rfl) <;> (repeat' (first | exact WA.nil | refine WA.cons rfl ?_ ?_ | exact WB.nil | refine WB.cons ?_ ?_ | exact WT.nil | refine WT.cons ?_ ?_ | exact WH.nil | refine WH.cons ?_ ?_ | exact WR.nil | refine WR.cons rfl ?_ ?_ | refine WO.vr ?_ | exact WO.dead | exact WO.mpS | refine WO.mpA ?_ | exact WO.arrP (fun i j => plainRow _ _ _) (by first | with_reducible rfl | assumption | (symm; assumption) | omega | (dsimp only; omega) | (rw [wrap_id _ (by omega) (by omega)]; first | rfl | omega | (push_cast; omega)) | rfl | (simp <;> fail)) | refine WO.arrA ?_ | exact WS.u | refine WS.c ?_ | refine WS.a ?_ | refine WS.t ?_ | exact WL.nil | refine WL.cons ?_ ?_ | exact WTL.nil | refine WTL.consC ?_ ?_ | refine WTL.consL ?_ ?_ | exact WC.nils | exact WC.nil rfl | exact WC.nilp | refine WC.fzA | exact WC.ptr rfl (Nat.le_of_ble_eq_true rfl) | exact WC.mpr rfl (Nat.le_of_ble_eq_true rfl) | refine WC.slA | refine WC.intA | refine WC.int ?_ | refine WC.boolA | refine WC.bool ?_ | refine WC.strA | refine WC.str ?_ | exact WC.imm rfl))
    · rintro k ⟨hk, hk2⟩
      conv => whnf
      repeat' ((first | refine Need.auto ?_ | refine Have.mk (fun _h => ?_)); conv => whnf)
      (first | refine Br.lt (fun h2 => ?_) (fun h2 => ?_) | refine Br.le (fun h2 => ?_) (fun h2 => ?_) | refine Br.gt (fun h2 => ?_) (fun h2 => ?_) | refine Br.ge (fun h2 => ?_) (fun h2 => ?_) | refine Br.eq (fun h2 => ?_) (fun h2 => ?_) | refine Br.ne (fun h2 => ?_) (fun h2 => ?_) | refine Br.not (fun h2 => ?_) (fun h2 => ?_) | refine Br.mk (fun h2 => ?_) (fun h2 => ?_)) <;> (try simp only [Int.toNat_natCast] at h2) <;> (conv => whnf)
      · repeat' ((first | refine Need.auto ?_ | refine Have.mk (fun _h => ?_)); conv => whnf)
        refine Dr.mk hΓ hMix (by kernel_rfl) ?_; conv => whnf
        repeat' ((first | refine Need.auto ?_ | refine Have.mk (fun _h => ?_)); conv => whnf)
        by_cases e : a.ents.getD k default = b.ents.getD k default
        · refine Br.no ((eqEnt (a.ents.getD k default) (b.ents.getD k default)).trans (by simp only [e, decide_true, Bool.not_true])) ?_
          conv => whnf
          repeat' ((first | refine Need.auto ?_ | refine Have.mk (fun _h => ?_)); conv => whnf)
          have w0 := wrap_id (↑k + 1) (by omega) (by omega)
          refine ⟨k + 1, ⟨by omega, all_step hk2 e⟩, by omega, ?_⟩
          refine Mv.mkW ?_ ?_ (Nat.le_of_ble_eq_true rfl) <;> (repeat' (first | exact WA.nil | refine WA.cons rfl ?_ ?_ | exact WB.nil | refine WB.cons ?_ ?_ | exact WT.nil | refine WT.cons ?_ ?_ | exact WH.nil | refine WH.cons ?_ ?_ | exact WR.nil | refine WR.cons rfl ?_ ?_ | refine WO.vr ?_ | exact WO.dead | exact WO.mpS | refine WO.mpA ?_ | exact WO.arrP (fun i j => plainRow _ _ _) (by first | with_reducible rfl | assumption | (symm; assumption) | omega | (dsimp only; omega) | (rw [wrap_id _ (by omega) (by omega)]; first | rfl | omega | (push_cast; omega)) | rfl | (simp <;> fail)) | refine WO.arrA ?_ | exact WS.u | refine WS.c ?_ | refine WS.a ?_ | refine WS.t ?_ | exact WL.nil | refine WL.cons ?_ ?_ | exact WTL.nil | refine WTL.consC ?_ ?_ | refine WTL.consL ?_ ?_ | exact WC.nils | exact WC.nil rfl | exact WC.nilp | refine WC.fzA | exact WC.ptr rfl (Nat.le_of_ble_eq_true rfl) | exact WC.mpr rfl (Nat.le_of_ble_eq_true rfl) | refine WC.slA | refine WC.intA | refine WC.int ?_ | refine WC.boolA | refine WC.bool ?_ | refine WC.strA | refine WC.str ?_ | exact WC.imm rfl))
        · refine Br.yes ((eqEnt (a.ents.getD k default) (b.ents.getD k default)).trans (by simp only [e, decide_false, Bool.not_false])) ?_
          conv => whnf
          repeat' ((first | refine Need.auto ?_ | refine Have.mk (fun _h => ?_)); conv => whnf)
          rw [decide_eq_false (fun q => list_ne e (by rw [q]))]
          refine RM.immW rfl ?_; (repeat' (first | exact WA.nil | refine WA.cons rfl ?_ ?_ | exact WB.nil | refine WB.cons ?_ ?_ | exact WT.nil | refine WT.cons ?_ ?_ | exact WH.nil | refine WH.cons ?_ ?_ | exact WR.nil | refine WR.cons rfl ?_ ?_ | refine WO.vr ?_ | exact WO.dead | exact WO.mpS | refine WO.mpA ?_ | exact WO.arrP (fun i j => plainRow _ _ _) (by first | with_reducible rfl | assumption | (symm; assumption) | omega | (dsimp only; omega) | (rw [wrap_id _ (by omega) (by omega)]; first | rfl | omega | (push_cast; omega)) | rfl | (simp <;> fail)) | refine WO.arrA ?_ | exact WS.u | refine WS.c ?_ | refine WS.a ?_ | refine WS.t ?_ | exact WL.nil | refine WL.cons ?_ ?_ | exact WTL.nil | refine WTL.consC ?_ ?_ | refine WTL.consL ?_ ?_ | exact WC.nils | exact WC.nil rfl | exact WC.nilp | refine WC.fzA | exact WC.ptr rfl (Nat.le_of_ble_eq_true rfl) | exact WC.mpr rfl (Nat.le_of_ble_eq_true rfl) | refine WC.slA | refine WC.intA | refine WC.int ?_ | refine WC.boolA | refine WC.bool ?_ | refine WC.strA | refine WC.str ?_ | exact WC.imm rfl))
      · repeat' ((first | refine Need.auto ?_ | refine Have.mk (fun _h => ?_)); conv => whnf)
        have e6 : a.ents = b.ents := list_eq (by omega) (fun i hi => hk2 i (by omega))
        clear hk hk2 h2
        refine Lp.mkK hΓ (ι := Nat) [2, 3] (fun i => [(6, .c (.int .i64 i))]) (fun _ => [.vr a.cells, .vr b.cells]) (fun i => i ≤ a.recs.length ∧ ∀ j, j < i → a.recs.getD j default = b.recs.getD j default) (fun i => a.recs.length - i) 0 ⟨Nat.zero_le _, fun j hj => absurd hj (Nat.not_lt_zero _)⟩ ?_ ?_
        · refine Mv.mkW ?_ ?_ (Nat.le_of_ble_eq_true rfl) <;> (repeat' (first | exact WA.nil | refine WA.cons rfl ?_ ?_ | exact WB.nil | refine WB.cons ?_ ?_ | exact WT.nil | refine WT.cons ?_ ?_ | exact WH.nil | refine WH.cons ?_ ?_ | exact WR.nil | refine WR.cons rfl ?_ ?_ | refine WO.vr ?_ | exact WO.dead | exact WO.mpS | refine WO.mpA ?_ | exact WO.arrP (fun i j => plainRow _ _ _) (by first | with_reducible rfl | assumption | (symm; assumption) | omega | (dsimp only; omega) | (rw [wrap_id _ (by omega) (by omega)]; first | rfl | omega | (push_cast; omega)) | rfl | (simp <;> fail)) | refine WO.arrA ?_ | exact WS.u | refine WS.c ?_ | refine WS.a ?_ | refine WS.t ?_ | exact WL.nil | refine WL.cons ?_ ?_ | exact WTL.nil | refine WTL.consC ?_ ?_ | refine WTL.consL ?_ ?_ | exact WC.nils | exact WC.nil rfl | exact WC.nilp | refine WC.fzA | exact WC.ptr rfl (Nat.le_of_ble_eq_true rfl) | exact WC.mpr rfl (Nat.le_of_ble_eq_true rfl) | refine WC.slA | refine WC.intA | refine WC.int ?_ | refine WC.boolA | refine WC.bool ?_ | refine WC.strA | refine WC.str ?_ | exact WC.imm rfl))
        · rintro k ⟨hk, hk2⟩
          conv => whnf
          repeat' ((first | refine Need.auto ?_ | refine Have.mk (fun _h => ?_)); conv => whnf)
          (first | refine Br.lt (fun h2 => ?_) (fun h2 => ?_) | refine Br.le (fun h2 => ?_) (fun h2 => ?_) | refine Br.gt (fun h2 => ?_) (fun h2 => ?_) | refine Br.ge (fun h2 => ?_) (fun h2 => ?_) | refine Br.eq (fun h2 => ?_) (fun h2 => ?_) | refine Br.ne (fun h2 => ?_) (fun h2 => ?_) | refine Br.not (fun h2 => ?_) (fun h2 => ?_) | refine Br.mk (fun h2 => ?_) (fun h2 => ?_)) <;> (try simp only [Int.toNat_natCast] at h2) <;> (conv => whnf)
          · repeat' ((first | refine Need.auto ?_ | refine Have.mk (fun _h => ?_)); conv => whnf)
            refine Dr.mk hΓ hMix (by kernel_rfl) ?_; conv => whnf
            repeat' ((first | refine Need.auto ?_ | refine Have.mk (fun _h => ?_)); conv => whnf)
            by_cases e : a.recs.getD k default = b.recs.getD k default
            · refine Br.no ((eqRec (a.recs.getD k default) (b.recs.getD k default)).trans (by simp only [e, decide_true, Bool.not_true])) ?_
              conv => whnf
              repeat' ((first | refine Need.auto ?_ | refine Have.mk (fun _h => ?_)); conv => whnf)
              have w0 := wrap_id (↑k + 1) (by omega) (by omega)
              refine ⟨k + 1, ⟨by omega, all_step hk2 e⟩, by omega, ?_⟩
              refine Mv.mkW ?_ ?_ (Nat.le_of_ble_eq_true rfl) <;> (repeat' (first | exact WA.nil | refine WA.cons rfl ?_ ?_ | exact WB.nil | refine WB.cons ?_ ?_ | exact WT.nil | refine WT.cons ?_ ?_ | exact WH.nil | refine WH.cons ?_ ?_ | exact WR.nil | refine WR.cons rfl ?_ ?_ | refine WO.vr ?_ | exact WO.dead | exact WO.mpS | refine WO.mpA ?_ | exact WO.arrP (fun i j => plainRow _ _ _) (by first | with_reducible rfl | assumption | (symm; assumption) | omega | (dsimp only; omega) | (rw [wrap_id _ (by omega) (by omega)]; first | rfl | omega | (push_cast; omega)) | rfl | (simp <;> fail)) | refine WO.arrA ?_ | exact WS.u | refine WS.c ?_ | refine WS.a ?_ | refine WS.t ?_ | exact WL.nil | refine WL.cons ?_ ?_ | exact WTL.nil | refine WTL.consC ?_ ?_ | refine WTL.consL ?_ ?_ | exact WC.nils | exact WC.nil rfl | exact WC.nilp | refine WC.fzA | exact WC.ptr rfl (Nat.le_of_ble_eq_true rfl) | exact WC.mpr rfl (Nat.le_of_ble_eq_true rfl) | refine WC.slA | refine WC.intA | refine WC.int ?_ | refine WC.boolA | refine WC.bool ?_ | refine WC.strA | refine WC.str ?_ | exact WC.imm rfl))
            · refine Br.yes ((eqRec (a.recs.getD k default) (b.recs.getD k default)).trans (by simp only [e, decide_false, Bool.not_false])) ?_
              conv => whnf
              repeat' ((first | refine Need.auto ?_ | refine Have.mk (fun _h => ?_)); conv => whnf)
              rw [decide_eq_false (fun q => list_ne e (by rw [q]))]
              refine RM.immW rfl ?_; (repeat' (first | exact WA.nil | refine WA.cons rfl ?_ ?_ | exact WB.nil | refine WB.cons ?_ ?_ | exact WT.nil | refine WT.cons ?_ ?_ | exact WH.nil | refine WH.cons ?_ ?_ | exact WR.nil | refine WR.cons rfl ?_ ?_ | refine WO.vr ?_ | exact WO.dead | exact WO.mpS | refine WO.mpA ?_ | exact WO.arrP (fun i j => plainRow _ _ _) (by first | with_reducible rfl | assumption | (symm; assumption) | omega | (dsimp only; omega) | (rw [wrap_id _ (by omega) (by omega)]; first | rfl | omega | (push_cast; omega)) | rfl | (simp <;> fail)) | refine WO.arrA ?_ | exact WS.u | refine WS.c ?_ | refine WS.a ?_ | refine WS.t ?_ | exact WL.nil | refine WL.cons ?_ ?_ | exact WTL.nil | refine WTL.consC ?_ ?_ | refine WTL.consL ?_ ?_ | exact WC.nils | exact WC.nil rfl | exact WC.nilp | refine WC.fzA | exact WC.ptr rfl (Nat.le_of_ble_eq_true rfl) | exact WC.mpr rfl (Nat.le_of_ble_eq_true rfl) | refine WC.slA | refine WC.intA | refine WC.int ?_ | refine WC.boolA | refine WC.bool ?_ | refine WC.strA | refine WC.str ?_ | exact WC.imm rfl))
          · repeat' ((first | refine Need.auto ?_ | refine Have.mk (fun _h => ?_)); conv => whnf)
            have e11 : a.recs = b.recs := list_eq (by omega) (fun i hi => hk2 i (by omega))
            clear hk hk2 h2
            have e : a = b := by cases a; cases b; simp_all
            rw [decide_eq_true e]
            refine RM.immW rfl ?_; (repeat' (first | exact WA.nil | refine WA.cons rfl ?_ ?_ | exact WB.nil | refine WB.cons ?_ ?_ | exact WT.nil | refine WT.cons ?_ ?_ | exact WH.nil | refine WH.cons ?_ ?_ | exact WR.nil | refine WR.cons rfl ?_ ?_ | refine WO.vr ?_ | exact WO.dead | exact WO.mpS | refine WO.mpA ?_ | exact WO.arrP (fun i j => plainRow _ _ _) (by first | with_reducible rfl | assumption | (symm; assumption) | omega | (dsimp only; omega) | (rw [wrap_id _ (by omega) (by omega)]; first | rfl | omega | (push_cast; omega)) | rfl | (simp <;> fail)) | refine WO.arrA ?_ | exact WS.u | refine WS.c ?_ | refine WS.a ?_ | refine WS.t ?_ | exact WL.nil | refine WL.cons ?_ ?_ | exact WTL.nil | refine WTL.consC ?_ ?_ | refine WTL.consL ?_ ?_ | exact WC.nils | exact WC.nil rfl | exact WC.nilp | refine WC.fzA | exact WC.ptr rfl (Nat.le_of_ble_eq_true rfl) | exact WC.mpr rfl (Nat.le_of_ble_eq_true rfl) | refine WC.slA | refine WC.intA | refine WC.int ?_ | refine WC.boolA | refine WC.bool ?_ | refine WC.strA | refine WC.str ?_ | exact WC.imm rfl))
  · refine Br.yes ?_ ?_
    · by_cases y : a.ents.length = b.ents.length <;> by_cases z : a.recs.length = b.recs.length <;> cases x1 : a.state != b.state <;> cases x2 : a.done != b.done <;> cases x3 : a.slot != b.slot <;> cases x4 : a.seq != b.seq <;> cases x5 : a.next != b.next <;> cases x6 : a.cut != b.cut <;> simp_all <;> omega
    conv => whnf
    repeat' ((first | refine Need.auto ?_ | refine Have.mk (fun _h => ?_)); conv => whnf)
    rw [decide_eq_false (fun e => hc (by rw [e]; simp))]
    refine RM.immW rfl ?_; (repeat' (first | exact WA.nil | refine WA.cons rfl ?_ ?_ | exact WB.nil | refine WB.cons ?_ ?_ | exact WT.nil | refine WT.cons ?_ ?_ | exact WH.nil | refine WH.cons ?_ ?_ | exact WR.nil | refine WR.cons rfl ?_ ?_ | refine WO.vr ?_ | exact WO.dead | exact WO.mpS | refine WO.mpA ?_ | exact WO.arrP (fun i j => plainRow _ _ _) (by first | with_reducible rfl | assumption | (symm; assumption) | omega | (dsimp only; omega) | (rw [wrap_id _ (by omega) (by omega)]; first | rfl | omega | (push_cast; omega)) | rfl | (simp <;> fail)) | refine WO.arrA ?_ | exact WS.u | refine WS.c ?_ | refine WS.a ?_ | refine WS.t ?_ | exact WL.nil | refine WL.cons ?_ ?_ | exact WTL.nil | refine WTL.consC ?_ ?_ | refine WTL.consL ?_ ?_ | exact WC.nils | exact WC.nil rfl | exact WC.nilp | refine WC.fzA | exact WC.ptr rfl (Nat.le_of_ble_eq_true rfl) | exact WC.mpr rfl (Nat.le_of_ble_eq_true rfl) | refine WC.slA | refine WC.intA | refine WC.int ?_ | refine WC.boolA | refine WC.bool ?_ | refine WC.strA | refine WC.str ?_ | exact WC.imm rfl))
theorem sameSav_body : HasBody Tryz.prog 84 := ⟨⟨Tryz.f84, Tryz.func84, rfl, by kernel_rfl⟩⟩
end Go.Proofs
end

section
open Go Go.Am
namespace Go.Proofs
set_option maxRecDepth 20000
theorem sameZone_eq (a b : Zone) : sameZone a b = decide (a = b) := by
  unfold sameZone
  rw [Bool.eq_iff_iff]
  cases a; cases b
  simp only [Bool.and_eq_true, decide_eq_true_eq, Zone.mk.injEq]
  constructor
  · rintro ⟨⟨h1, h2, -⟩, h3⟩; exact ⟨h1, h2, h3⟩
  · rintro ⟨rfl, rfl, rfl⟩; exact ⟨⟨rfl, rfl, rfl⟩, rfl⟩
theorem allSame_eq : ∀ a b : List Zone, allSame a b = decide (a = b)
  | [], [] => by simp [allSame]
  | x :: r, y :: r' => by
    rw [Bool.eq_iff_iff]
    simp [allSame, sameZone_eq, allSame_eq r r']
  | [], _ :: _ => by simp [allSame]
  | _ :: _, [] => by simp [allSame]
theorem same_eq (a b : Dev) : same a b = decide (a = b) := by
  unfold same
  rw [allSame_eq, Bool.eq_iff_iff]
  cases a; cases b
  simp only [Bool.and_eq_true, decide_eq_true_eq, Dev.mk.injEq]
  constructor
  · rintro ⟨⟨h1, h2, h3, -⟩, h4⟩; exact ⟨h1, h2, h3, h4⟩
  · rintro ⟨rfl, rfl, rfl, rfl⟩; exact ⟨⟨rfl, rfl, rfl, rfl⟩, rfl⟩
theorem St_ext {a b : St} (h0 : a.cfg = b.cfg) (h1 : a.dev = b.dev) (h2 : a.map = b.map) (h3 : a.live = b.live) (h4 : a.pend = b.pend) (h5 : a.owner = b.owner) (h6 : a.glob = b.glob) (h7 : a.pins = b.pins) (h8 : a.rets = b.rets) (h9 : a.free = b.free) (h10 : a.host = b.host) (h11 : a.lane = b.lane) (h12 : a.rings = b.rings) (h13 : a.works = b.works) (h14 : a.cln = b.cln) (h15 : a.sav = b.sav) (h16 : a.next = b.next) (h17 : a.serial = b.serial) (h18 : a.seq = b.seq) (h19 : a.slot = b.slot) (h20 : a.want = b.want) (h21 : a.closed = b.closed) (h22 : a.evs = b.evs) : a = b := by
  cases a; cases b
  simp only [St.mk.injEq]
  exact ⟨h0, h1, h2, h3, h4, h5, h6, h7, h8, h9, h10, h11, h12, h13, h14, h15, h16, h17, h18, h19, h20, h21, h22⟩
theorem orF {a b : Bool} (h : (bif a then true else b) = false) : a = false ∧ b = false := by cases a <;> simp_all
set_option maxHeartbeats 4000000 in
theorem same24_spec (a b : St) (ha : a.small) : PSpec Tryz.prog 24 [.a a.cells, .a b.cells] (.c (.bool (decide (a = b)))) := by
  refine PSpec.rm ?_
  refine CSpec.of_vc hΓ Tryz.func24 rfl 178 0 [.tmp 4] Tryz.ntmps24 rfl (by rw [Tryz.results24]) rfl ?_
  conv => whnf
  repeat' ((first | refine Need.auto ?_ | refine Have.mk (fun _h => ?_)); conv => whnf)
  refine CallG.auto same_body (fun _ => same_spec a.dev b.dev ) ?_
  conv => whnf
  repeat' ((first | refine Need.auto ?_ | refine Have.mk (fun _h => ?_)); conv => whnf)
  refine CallG.auto same09_body (fun _ => same09_spec a.map b.map ha.map ha.shard ) ?_
  conv => whnf
  repeat' ((first | refine Need.auto ?_ | refine Have.mk (fun _h => ?_)); conv => whnf)
  refine CallG.auto same10_body (fun _ => same10_spec a.live b.live a.pend b.pend ha.live ha.pend ) ?_
  conv => whnf
  repeat' ((first | refine Need.auto ?_ | refine Have.mk (fun _h => ?_)); conv => whnf)
  refine CallG.auto sameInts_body (fun _ => sameInts_spec a.owner b.owner ha.owner ) ?_
  conv => whnf
  repeat' ((first | refine Need.auto ?_ | refine Have.mk (fun _h => ?_)); conv => whnf)
  refine CallG.auto same12_body (fun _ => same12_spec a.glob b.glob a.pins b.pins a.rets b.rets ha.pins ha.rets ) ?_
  conv => whnf
  repeat' ((first | refine Need.auto ?_ | refine Have.mk (fun _h => ?_)); conv => whnf)
  refine CallG.auto same13_body (fun _ => same13_spec a.free b.free a.host a.lane b.host b.lane ha.free ) ?_
  conv => whnf
  repeat' ((first | refine Need.auto ?_ | refine Have.mk (fun _h => ?_)); conv => whnf)
  refine Br.mk (fun h => ?_) (fun h => ?_)
  · conv => whnf
    repeat' ((first | refine Need.auto ?_ | refine Have.mk (fun _h => ?_)); conv => whnf)
    rw [decide_eq_false (fun e => by subst e; simp [same_eq] at h)]
    refine RM.immW rfl ?_; (repeat' (first | exact WA.nil | refine WA.cons rfl ?_ ?_ | exact WB.nil | refine WB.cons ?_ ?_ | exact WT.nil | refine WT.cons ?_ ?_ | exact WH.nil | refine WH.cons ?_ ?_ | exact WR.nil | refine WR.cons rfl ?_ ?_ | refine WO.vr ?_ | exact WO.dead | exact WO.mpS | refine WO.mpA ?_ | exact WO.arrP (fun i j => plainRow _ _ _) (by first | with_reducible rfl | assumption | (symm; assumption) | omega | (dsimp only; omega) | (rw [wrap_id _ (by omega) (by omega)]; first | rfl | omega | (push_cast; omega)) | rfl | (simp <;> fail)) | refine WO.arrA ?_ | exact WS.u | refine WS.c ?_ | refine WS.a ?_ | refine WS.t ?_ | exact WL.nil | refine WL.cons ?_ ?_ | exact WTL.nil | refine WTL.consC ?_ ?_ | refine WTL.consL ?_ ?_ | exact WC.nils | exact WC.nil rfl | exact WC.nilp | refine WC.fzA | exact WC.ptr rfl (Nat.le_of_ble_eq_true rfl) | exact WC.mpr rfl (Nat.le_of_ble_eq_true rfl) | refine WC.slA | refine WC.intA | refine WC.int ?_ | refine WC.boolA | refine WC.bool ?_ | refine WC.strA | refine WC.str ?_ | exact WC.imm rfl))
  · obtain ⟨h, h9⟩ := orF h
    obtain ⟨h, h8⟩ := orF h
    obtain ⟨h, h7⟩ := orF h
    obtain ⟨h, h6⟩ := orF h
    obtain ⟨h, h5⟩ := orF h
    obtain ⟨h, h4⟩ := orF h
    obtain ⟨h, h3⟩ := orF h
    obtain ⟨h1, h2⟩ := orF h
    rw [eqConf] at h1
    rw [same_eq] at h2
    simp only [Bool.not_eq_false', decide_eq_true_eq] at h1 h2 h3 h4 h5 h6 h7
    simp only [bne_eq_false_iff_eq, Int.natCast_inj] at h8 h9
    conv => whnf
    repeat' ((first | refine Need.auto ?_ | refine Have.mk (fun _h => ?_)); conv => whnf)
    refine Lp.mkK hΓ (ι := Nat) [2, 3] (fun i => [(5, .c (.int .i64 i))]) (fun _ => [.vr a.cells, .vr b.cells]) (fun i => i ≤ a.rings.length ∧ ∀ j, j < i → a.rings.getD j default = b.rings.getD j default) (fun i => a.rings.length - i) 0 ⟨Nat.zero_le _, fun j hj => absurd hj (Nat.not_lt_zero _)⟩ ?_ ?_
    · refine Mv.mkW ?_ ?_ (Nat.le_of_ble_eq_true rfl) <;> (repeat' (first | exact WA.nil | refine WA.cons rfl ?_ ?_ | exact WB.nil | refine WB.cons ?_ ?_ | exact WT.nil | refine WT.cons ?_ ?_ | exact WH.nil | refine WH.cons ?_ ?_ | exact WR.nil | refine WR.cons rfl ?_ ?_ | refine WO.vr ?_ | exact WO.dead | exact WO.mpS | refine WO.mpA ?_ | exact WO.arrP (fun i j => plainRow _ _ _) (by first | with_reducible rfl | assumption | (symm; assumption) | omega | (dsimp only; omega) | (rw [wrap_id _ (by omega) (by omega)]; first | rfl | omega | (push_cast; omega)) | rfl | (simp <;> fail)) | refine WO.arrA ?_ | exact WS.u | refine WS.c ?_ | refine WS.a ?_ | refine WS.t ?_ | exact WL.nil | refine WL.cons ?_ ?_ | exact WTL.nil | refine WTL.consC ?_ ?_ | refine WTL.consL ?_ ?_ | exact WC.nils | exact WC.nil rfl | exact WC.nilp | refine WC.fzA | exact WC.ptr rfl (Nat.le_of_ble_eq_true rfl) | exact WC.mpr rfl (Nat.le_of_ble_eq_true rfl) | refine WC.slA | refine WC.intA | refine WC.int ?_ | refine WC.boolA | refine WC.bool ?_ | refine WC.strA | refine WC.str ?_ | exact WC.imm rfl))
    · rintro k ⟨hk, hk2⟩
      have hri := ha.items k
      have hrl := ha.rings
      conv => whnf
      repeat' ((first | refine Need.auto ?_ | refine Have.mk (fun _h => ?_)); conv => whnf)
      (first | refine Br.lt (fun hh => ?_) (fun hh => ?_) | refine Br.le (fun hh => ?_) (fun hh => ?_) | refine Br.gt (fun hh => ?_) (fun hh => ?_) | refine Br.ge (fun hh => ?_) (fun hh => ?_) | refine Br.eq (fun hh => ?_) (fun hh => ?_) | refine Br.ne (fun hh => ?_) (fun hh => ?_) | refine Br.not (fun hh => ?_) (fun hh => ?_) | refine Br.mk (fun hh => ?_) (fun hh => ?_)) <;> (try simp only [Int.toNat_natCast] at hh) <;> (conv => whnf)
      · repeat' ((first | refine Need.auto ?_ | refine Have.mk (fun _h => ?_)); conv => whnf)
        refine Dr.mk hΓ hMix (by kernel_rfl) ?_; conv => whnf
        repeat' ((first | refine Need.auto ?_ | refine Have.mk (fun _h => ?_)); conv => whnf)
        refine CallP.auto same16_body (same16_spec (a.rings.getD k default) (b.rings.getD k default) hri ) ?_
        conv => whnf
        repeat' ((first | refine Need.auto ?_ | refine Have.mk (fun _h => ?_)); conv => whnf)
        by_cases e : a.rings.getD k default = b.rings.getD k default
        · refine Br.no (by simp only [e, decide_true, Bool.not_true]) ?_
          conv => whnf
          repeat' ((first | refine Need.auto ?_ | refine Have.mk (fun _h => ?_)); conv => whnf)
          have w0 := wrap_id (↑k + 1) (by omega) (by omega)
          refine ⟨k + 1, ⟨by omega, all_step hk2 e⟩, by omega, ?_⟩
          refine Mv.mkW ?_ ?_ (Nat.le_of_ble_eq_true rfl) <;> (repeat' (first | exact WA.nil | refine WA.cons rfl ?_ ?_ | exact WB.nil | refine WB.cons ?_ ?_ | exact WT.nil | refine WT.cons ?_ ?_ | exact WH.nil | refine WH.cons ?_ ?_ | exact WR.nil | refine WR.cons rfl ?_ ?_ | refine WO.vr ?_ | exact WO.dead | exact WO.mpS | refine WO.mpA ?_ | exact WO.arrP (fun i j => plainRow _ _ _) (by first | with_reducible rfl | assumption | (symm; assumption) | omega | (dsimp only; omega) | (rw [wrap_id _ (by omega) (by omega)]; first | rfl | omega | (push_cast; omega)) | rfl | (simp <;> fail)) | refine WO.arrA ?_ | exact WS.u | refine WS.c ?_ | refine WS.a ?_ | refine WS.t ?_ | exact WL.nil | refine WL.cons ?_ ?_ | exact WTL.nil | refine WTL.consC ?_ ?_ | refine WTL.consL ?_ ?_ | exact WC.nils | exact WC.nil rfl | exact WC.nilp | refine WC.fzA | exact WC.ptr rfl (Nat.le_of_ble_eq_true rfl) | exact WC.mpr rfl (Nat.le_of_ble_eq_true rfl) | refine WC.slA | refine WC.intA | refine WC.int ?_ | refine WC.boolA | refine WC.bool ?_ | refine WC.strA | refine WC.str ?_ | exact WC.imm rfl))
        · refine Br.yes (by simp only [e, decide_false, Bool.not_false]) ?_
          conv => whnf
          repeat' ((first | refine Need.auto ?_ | refine Have.mk (fun _h => ?_)); conv => whnf)
          rw [decide_eq_false (fun q => list_ne e (by rw [q]))]
          refine RM.immW rfl ?_; (repeat' (first | exact WA.nil | refine WA.cons rfl ?_ ?_ | exact WB.nil | refine WB.cons ?_ ?_ | exact WT.nil | refine WT.cons ?_ ?_ | exact WH.nil | refine WH.cons ?_ ?_ | exact WR.nil | refine WR.cons rfl ?_ ?_ | refine WO.vr ?_ | exact WO.dead | exact WO.mpS | refine WO.mpA ?_ | exact WO.arrP (fun i j => plainRow _ _ _) (by first | with_reducible rfl | assumption | (symm; assumption) | omega | (dsimp only; omega) | (rw [wrap_id _ (by omega) (by omega)]; first | rfl | omega | (push_cast; omega)) | rfl | (simp <;> fail)) | refine WO.arrA ?_ | exact WS.u | refine WS.c ?_ | refine WS.a ?_ | refine WS.t ?_ | exact WL.nil | refine WL.cons ?_ ?_ | exact WTL.nil | refine WTL.consC ?_ ?_ | refine WTL.consL ?_ ?_ | exact WC.nils | exact WC.nil rfl | exact WC.nilp | refine WC.fzA | exact WC.ptr rfl (Nat.le_of_ble_eq_true rfl) | exact WC.mpr rfl (Nat.le_of_ble_eq_true rfl) | refine WC.slA | refine WC.intA | refine WC.int ?_ | refine WC.boolA | refine WC.bool ?_ | refine WC.strA | refine WC.str ?_ | exact WC.imm rfl))
      · repeat' ((first | refine Need.auto ?_ | refine Have.mk (fun _h => ?_)); conv => whnf)
        have er : a.rings = b.rings := list_eq (by omega) (fun i hi => hk2 i (by omega))
        clear hk hk2 hh
        refine Lp.mkK hΓ (ι := Nat) [2, 3] (fun i => [(6, .c (.int .i64 i))]) (fun _ => [.vr a.cells, .vr b.cells]) (fun i => i ≤ a.works.length ∧ ∀ j, j < i → a.works.getD j default = b.works.getD j default) (fun i => a.works.length - i) 0 ⟨Nat.zero_le _, fun j hj => absurd hj (Nat.not_lt_zero _)⟩ ?_ ?_
        · refine Mv.mkW ?_ ?_ (Nat.le_of_ble_eq_true rfl) <;> (repeat' (first | exact WA.nil | refine WA.cons rfl ?_ ?_ | exact WB.nil | refine WB.cons ?_ ?_ | exact WT.nil | refine WT.cons ?_ ?_ | exact WH.nil | refine WH.cons ?_ ?_ | exact WR.nil | refine WR.cons rfl ?_ ?_ | refine WO.vr ?_ | exact WO.dead | exact WO.mpS | refine WO.mpA ?_ | exact WO.arrP (fun i j => plainRow _ _ _) (by first | with_reducible rfl | assumption | (symm; assumption) | omega | (dsimp only; omega) | (rw [wrap_id _ (by omega) (by omega)]; first | rfl | omega | (push_cast; omega)) | rfl | (simp <;> fail)) | refine WO.arrA ?_ | exact WS.u | refine WS.c ?_ | refine WS.a ?_ | refine WS.t ?_ | exact WL.nil | refine WL.cons ?_ ?_ | exact WTL.nil | refine WTL.consC ?_ ?_ | refine WTL.consL ?_ ?_ | exact WC.nils | exact WC.nil rfl | exact WC.nilp | refine WC.fzA | exact WC.ptr rfl (Nat.le_of_ble_eq_true rfl) | exact WC.mpr rfl (Nat.le_of_ble_eq_true rfl) | refine WC.slA | refine WC.intA | refine WC.int ?_ | refine WC.boolA | refine WC.bool ?_ | refine WC.strA | refine WC.str ?_ | exact WC.imm rfl))
        · rintro q ⟨hq, hq2⟩
          have hwl := ha.works
          conv => whnf
          repeat' ((first | refine Need.auto ?_ | refine Have.mk (fun _h => ?_)); conv => whnf)
          (first | refine Br.lt (fun hh => ?_) (fun hh => ?_) | refine Br.le (fun hh => ?_) (fun hh => ?_) | refine Br.gt (fun hh => ?_) (fun hh => ?_) | refine Br.ge (fun hh => ?_) (fun hh => ?_) | refine Br.eq (fun hh => ?_) (fun hh => ?_) | refine Br.ne (fun hh => ?_) (fun hh => ?_) | refine Br.not (fun hh => ?_) (fun hh => ?_) | refine Br.mk (fun hh => ?_) (fun hh => ?_)) <;> (try simp only [Int.toNat_natCast] at hh) <;> (conv => whnf)
          · repeat' ((first | refine Need.auto ?_ | refine Have.mk (fun _h => ?_)); conv => whnf)
            refine Dr.mk hΓ hMix (by kernel_rfl) ?_; conv => whnf
            repeat' ((first | refine Need.auto ?_ | refine Have.mk (fun _h => ?_)); conv => whnf)
            by_cases e : a.works.getD q default = b.works.getD q default
            · refine Br.no ((eqWrk (a.works.getD q default) (b.works.getD q default)).trans (by simp only [e, decide_true, Bool.not_true])) ?_
              conv => whnf
              repeat' ((first | refine Need.auto ?_ | refine Have.mk (fun _h => ?_)); conv => whnf)
              have w0 := wrap_id (↑q + 1) (by omega) (by omega)
              refine ⟨q + 1, ⟨by omega, all_step hq2 e⟩, by omega, ?_⟩
              refine Mv.mkW ?_ ?_ (Nat.le_of_ble_eq_true rfl) <;> (repeat' (first | exact WA.nil | refine WA.cons rfl ?_ ?_ | exact WB.nil | refine WB.cons ?_ ?_ | exact WT.nil | refine WT.cons ?_ ?_ | exact WH.nil | refine WH.cons ?_ ?_ | exact WR.nil | refine WR.cons rfl ?_ ?_ | refine WO.vr ?_ | exact WO.dead | exact WO.mpS | refine WO.mpA ?_ | exact WO.arrP (fun i j => plainRow _ _ _) (by first | with_reducible rfl | assumption | (symm; assumption) | omega | (dsimp only; omega) | (rw [wrap_id _ (by omega) (by omega)]; first | rfl | omega | (push_cast; omega)) | rfl | (simp <;> fail)) | refine WO.arrA ?_ | exact WS.u | refine WS.c ?_ | refine WS.a ?_ | refine WS.t ?_ | exact WL.nil | refine WL.cons ?_ ?_ | exact WTL.nil | refine WTL.consC ?_ ?_ | refine WTL.consL ?_ ?_ | exact WC.nils | exact WC.nil rfl | exact WC.nilp | refine WC.fzA | exact WC.ptr rfl (Nat.le_of_ble_eq_true rfl) | exact WC.mpr rfl (Nat.le_of_ble_eq_true rfl) | refine WC.slA | refine WC.intA | refine WC.int ?_ | refine WC.boolA | refine WC.bool ?_ | refine WC.strA | refine WC.str ?_ | exact WC.imm rfl))
            · refine Br.yes ((eqWrk (a.works.getD q default) (b.works.getD q default)).trans (by simp only [e, decide_false, Bool.not_false])) ?_
              conv => whnf
              repeat' ((first | refine Need.auto ?_ | refine Have.mk (fun _h => ?_)); conv => whnf)
              rw [decide_eq_false (fun q => list_ne e (by rw [q]))]
              refine RM.immW rfl ?_; (repeat' (first | exact WA.nil | refine WA.cons rfl ?_ ?_ | exact WB.nil | refine WB.cons ?_ ?_ | exact WT.nil | refine WT.cons ?_ ?_ | exact WH.nil | refine WH.cons ?_ ?_ | exact WR.nil | refine WR.cons rfl ?_ ?_ | refine WO.vr ?_ | exact WO.dead | exact WO.mpS | refine WO.mpA ?_ | exact WO.arrP (fun i j => plainRow _ _ _) (by first | with_reducible rfl | assumption | (symm; assumption) | omega | (dsimp only; omega) | (rw [wrap_id _ (by omega) (by omega)]; first | rfl | omega | (push_cast; omega)) | rfl | (simp <;> fail)) | refine WO.arrA ?_ | exact WS.u | refine WS.c ?_ | refine WS.a ?_ | refine WS.t ?_ | exact WL.nil | refine WL.cons ?_ ?_ | exact WTL.nil | refine WTL.consC ?_ ?_ | refine WTL.consL ?_ ?_ | exact WC.nils | exact WC.nil rfl | exact WC.nilp | refine WC.fzA | exact WC.ptr rfl (Nat.le_of_ble_eq_true rfl) | exact WC.mpr rfl (Nat.le_of_ble_eq_true rfl) | refine WC.slA | refine WC.intA | refine WC.int ?_ | refine WC.boolA | refine WC.bool ?_ | refine WC.strA | refine WC.str ?_ | exact WC.imm rfl))
          · repeat' ((first | refine Need.auto ?_ | refine Have.mk (fun _h => ?_)); conv => whnf)
            have ew : a.works = b.works := list_eq (by omega) (fun i hi => hq2 i (by omega))
            clear hq hq2 hh
            refine CallG.auto sameSav_body (fun _ => sameSav_spec a.sav b.sav ha.ents ha.recs ) ?_
            conv => whnf
            repeat' ((first | refine Need.mk (fun h => h) ?_ | refine Need.auto ?_ | refine Have.mk (fun _h => ?_)); conv => whnf)
            refine CallG.auto same18_body (fun _ => same18_spec a.evs b.evs ha.evs ) ?_
            conv => whnf
            repeat' ((first | refine Need.mk (fun h => h) ?_ | refine Need.auto ?_ | refine Have.mk (fun _h => ?_)); conv => whnf)
            refine RM.immW rfl (WS.c (WC.bool ?_))
            rw [eqCln, Bool.eq_iff_iff]
            simp only [Bool.cond_false_right, Bool.and_eq_true, decide_eq_true_eq, beq_iff_eq]
            constructor
            · rintro ⟨⟨⟨⟨⟨⟨⟨⟨q1, q2⟩, q3⟩, q4⟩, q5⟩, q6⟩, q7⟩, q8⟩, q9⟩
              exact St_ext h1 h2 h3 h4.1 h4.2 h5 h6.1 h6.2.1 h6.2.2 h7.2.2 h7.1 h7.2.1 er ew q1 q2 q3 q4 q5 q6 q7 q8 q9
            · intro e
              subst e
              simp only [and_self]
theorem same24_body : HasBody Tryz.prog 24 := ⟨⟨Tryz.f24, Tryz.func24, rfl, by kernel_rfl⟩⟩
end Go.Proofs
end
