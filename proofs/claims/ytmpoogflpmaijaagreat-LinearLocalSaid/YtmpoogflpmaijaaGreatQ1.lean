/- Part of the proofs of laws of this seat: contracts and plain lemmas; no condition is added to a statement. -/
import Derived.Test.YtmpoogflpmaijaaGreatAmE
import Derived.Test.YtmpoogflpmaijaaGreatEnv
import Derived.Test.YtmpoogflpmaijaaGreatHistA
import Derived.KernelRfl
set_option linter.unusedSimpArgs false
set_option linter.unusedVariables false
open Go Go.Am
namespace Go.Proofs
section
variable {H : Type} {enc : TypeId × Value → H}
def anyD {α : Type} : α → DataW H → Prop := fun _ _ => True
theorem Rd.any {t : TypeId} {n : Nat} {α : Type} {cell : α → Nat → C} {good : α → DataW H → Prop} (h : Rd enc Tryz.prog t n α cell good) : Rd enc Tryz.prog t n α cell anyD :=
  ⟨h.cells, fun W sp fuel cs x hx => by
    obtain ⟨h1, a, h2, -⟩ := h.out W sp fuel cs x hx
    exact ⟨h1, a, h2, trivial⟩⟩
theorem rq_int : Rd enc Tryz.prog 3 1 Int (fun n _ => .int .i64 n) anyD := Rd.any (Rd.int Tryz.underlying3 (by kernel_rfl))
theorem rq_errno : Rd enc Tryz.prog 31 1 Int (fun n _ => .int .i64 n) anyD := Rd.any (Rd.int Tryz.underlying31 (by kernel_rfl))
theorem rq_bool : Rd enc Tryz.prog 4 1 Bool (fun n _ => .bool n) anyD := Rd.any (Rd.bool Tryz.underlying4 (by kernel_rfl))
theorem rq_str : Rd enc Tryz.prog 9 1 ByteArray (fun s _ => .str s) anyD := Rd.any (Rd.str Tryz.underlying9 (by kernel_rfl))
theorem rq_strs : Rd enc Tryz.prog 27 1 (List ByteArray) (fun l _ => strsC l) anyD := Rd.any (Rd.slice Tryz.underlying27 (by kernel_rfl) (by decide) (rq_str (enc := enc)))
theorem rq_ints : Rd enc Tryz.prog 22 1 (List Int) (fun l _ => intsC l) anyD := Rd.any (Rd.slice Tryz.underlying22 (by kernel_rfl) (by decide) (rq_int (enc := enc)))
def cmdCell (c : Int × Int × ByteArray) : Nat → C
  | 0 => .int .i64 c.1
  | 1 => .int .i64 c.2.1
  | _ => .str c.2.2
def resCell (c : Int × ByteArray) : Nat → C
  | 0 => .int .i64 c.1
  | _ => .str c.2
theorem rq_cmd : Rd enc Tryz.prog 48 3 (Int × Int × ByteArray) cmdCell anyD :=
  ⟨by kernel_rfl, fun W sp fuel cs x h => by
    obtain ⟨hl, ps, hx, hp, hf⟩ := struct_part Tryz.underlying48 h
    rw [show Tryz.prog.cellsOf 48 = 3 by kernel_rfl] at hl
    obtain ⟨a, a1, -⟩ := hf 0 _ 1 _ _ _ rfl rq_int
    obtain ⟨b, b1, -⟩ := hf 1 _ 1 _ _ _ rfl rq_int
    obtain ⟨c, c1, -⟩ := hf 2 _ 1 _ _ _ rfl rq_str
    refine ⟨hl, ⟨a, b, c⟩, fun j hj => ?_, trivial⟩
    match j, hj with
    | 0, _ => exact a1 0 (by decide)
    | 1, _ => exact b1 0 (by decide)
    | 2, _ => exact c1 0 (by decide)⟩
theorem rq_res : Rd enc Tryz.prog 50 2 (Int × ByteArray) resCell anyD :=
  ⟨by kernel_rfl, fun W sp fuel cs x h => by
    obtain ⟨hl, ps, hx, hp, hf⟩ := struct_part Tryz.underlying50 h
    rw [show Tryz.prog.cellsOf 50 = 2 by kernel_rfl] at hl
    obtain ⟨a, a1, -⟩ := hf 0 _ 1 _ _ _ rfl rq_errno
    obtain ⟨c, c1, -⟩ := hf 1 _ 1 _ _ _ rfl rq_str
    refine ⟨hl, ⟨a, c⟩, fun j hj => ?_, trivial⟩
    match j, hj with
    | 0, _ => exact a1 0 (by decide)
    | 1, _ => exact c1 0 (by decide)⟩
theorem rq_ev : Rd enc Tryz.prog 52 8 Evt Evt.cell anyD :=
  ⟨by kernel_rfl, fun W sp fuel cs x h => by
    obtain ⟨hl, ps, hx, hp, hf⟩ := struct_part Tryz.underlying52 h
    rw [show Tryz.prog.cellsOf 52 = 8 by kernel_rfl] at hl
    obtain ⟨a, a1, -⟩ := hf 0 _ 1 _ _ _ rfl rq_bool
    obtain ⟨b, b1, -⟩ := hf 1 _ 1 _ _ _ rfl rq_int
    obtain ⟨c, c1, -⟩ := hf 2 _ 1 _ _ _ rfl rq_int
    obtain ⟨d, d1, -⟩ := hf 3 _ 3 _ _ _ rfl rq_cmd
    obtain ⟨e, e1, -⟩ := hf 4 _ 2 _ _ _ rfl rq_res
    refine ⟨hl, ⟨a, b, c, d.1, d.2.1, d.2.2, e.1, e.2⟩, fun j hj => ?_, trivial⟩
    match j, hj with
    | 0, _ => exact a1 0 (by decide)
    | 1, _ => exact b1 0 (by decide)
    | 2, _ => exact c1 0 (by decide)
    | 3, _ => exact d1 0 (by decide)
    | 4, _ => exact d1 1 (by decide)
    | 5, _ => exact d1 2 (by decide)
    | 6, _ => exact e1 0 (by decide)
    | 7, _ => exact e1 1 (by decide)⟩
theorem rq_evs : Rd enc Tryz.prog 25 1 (List Evt) (fun l _ => evC l) anyD := Rd.any (Rd.slice Tryz.underlying25 (by kernel_rfl) (by decide) (rq_ev (enc := enc)))
/-- One cell that came in. -/
theorem rq_one {t : TypeId} {α : Type} {cell : α → Nat → C} (R : Rd enc Tryz.prog t 1 α cell anyD) {W : World} {sp : Nat → Bool} {v : Value} {d : DataW H} {ps : List MemPlace} (hv : v.cells = #[v])
    (h : DataW.Trod enc Tryz.prog W 0 sp true t v d ps) : ∃ a, ∀ μ, RepS (heapM W) [] μ (.c (cell a 0)) v := by
  obtain ⟨fuel, hf⟩ := h
  obtain ⟨hl, a, a1, -⟩ := R.out W sp fuel _ _ hf
  obtain ⟨u, u1, u2⟩ := a1 0 (by decide)
  rw [hv] at u1
  simp at u1
  subst u1
  exact ⟨a, fun μ => RepF.toC [] μ _ _ u2⟩
end
end Go.Proofs
