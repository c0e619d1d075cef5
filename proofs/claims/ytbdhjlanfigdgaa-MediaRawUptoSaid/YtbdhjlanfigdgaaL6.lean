/- Part of the proofs of laws of this seat: contracts and plain lemmas; no condition is added to a statement. -/
import Derived.Test.YtbdhjlanfigdgaaAmC
import Derived.Test.YtbdhjlanfigdgaaEnv
import Derived.Test.YtbdhjlanfigdgaaMods
import Derived.KernelRfl
set_option linter.unusedSimpArgs false
set_option linter.unusedVariables false
open Go Go.Am
namespace Go.Proofs
section
variable {H : Type} {enc : TypeId × Value → H}
theorem rd_int : Rd enc Try.prog 3 1 Int (fun n _ => .int .i64 n) fun n d => (Lit.int .i64 n).wf = true ∧ d = .lit (.int .i64 n) := Rd.int Try.underlying3 (by kernel_rfl)
theorem rd_str : Rd enc Try.prog 9 1 ByteArray (fun s _ => .str s) fun s d => s.size ≤ maxLen ∧ d = .lit (.string s.data.toList) := Rd.str Try.underlying9 (by kernel_rfl)
theorem rd_strs : Rd enc Try.prog 26 1 (List ByteArray) (fun l _ => .isl 1 l.length (rowG (fun s _ => .str s) l) false) (GoodL fun s d => s.size ≤ maxLen ∧ d = .lit (.string s.data.toList)) := Rd.slice Try.underlying26 (by kernel_rfl) (by decide) rd_str
/-- What is known of a zone that came in. -/
def GoodZ (z : Zone) (d : DataW H) : Prop := z.fits ∧ ∃ ss, d = .agg [.lit (.int .i64 z.state), .lit (.int .i64 z.durable), ss] ∧ GoodL (fun s d => s.size ≤ maxLen ∧ d = .lit (.string s.data.toList)) z.sectors ss
theorem rd_zone : Rd enc Try.prog 28 3 Zone Zone.cell GoodZ :=
  ⟨by kernel_rfl, fun W sp fuel cs x h => by
    obtain ⟨hl, ps, hx, hp, hf⟩ := struct_part Try.underlying28 h
    rw [show Try.prog.cellsOf 28 = 3 by kernel_rfl] at hl
    obtain ⟨st, s1, e0, s2, s3, s4⟩ := hf 0 _ 1 _ _ _ rfl rd_int
    obtain ⟨du, d1, e1, d2, d3, d4⟩ := hf 1 _ 1 _ _ _ rfl rd_int
    obtain ⟨ss, q1, e2, q2, q3⟩ := hf 2 _ 1 _ _ _ rfl rd_strs
    refine ⟨hl, ⟨st, du, ss⟩, fun j hj => ?_, ⟨wf_i64 s3, wf_i64 d3⟩, e2, ?_, q3⟩
    · match j, hj with
      | 0, _ => exact s1 0 (by decide)
      | 1, _ => exact d1 0 (by decide)
      | 2, _ => exact q1 0 (by decide)
    · rw [hx]
      congr 1
      match ps, hp, s2, d2, q2 with
      | [a, b, c], _, s2, d2, q2 =>
        simp only [List.getElem?_cons_zero, List.getElem?_cons_succ, Option.some.injEq] at s2 d2 q2
        rw [s2, d2, q2, s4, d4]⟩
theorem rd_zones : Rd enc Try.prog 22 1 (List Zone) (fun l _ => .isl 3 l.length (rowG Zone.cell l) false) (GoodL GoodZ) := Rd.slice Try.underlying22 (by kernel_rfl) (by decide) rd_zone
def GoodDev (x : Dev) (d : DataW H) : Prop := ((Lit.int .i64 x.size).wf = true ∧ (Lit.int .i64 x.maxOpen).wf = true ∧ (Lit.int .i64 x.maxActive).wf = true) ∧ ∃ zs, d = .agg [.lit (.int .i64 x.size), .lit (.int .i64 x.maxOpen), .lit (.int .i64 x.maxActive), zs] ∧ GoodL GoodZ x.zones zs
theorem rd_dev : Rd enc Try.prog 24 4 Dev (fun d => lget d.cells) GoodDev :=
  ⟨by kernel_rfl, fun W sp fuel cs x h => by
    obtain ⟨hl, ps, hx, hp, hf⟩ := struct_part Try.underlying24 h
    rw [show Try.prog.cellsOf 24 = 4 by kernel_rfl] at hl
    obtain ⟨a, a1, e0, a2, a3, a4⟩ := hf 0 _ 1 _ _ _ rfl rd_int
    obtain ⟨b, b1, e1, b2, b3, b4⟩ := hf 1 _ 1 _ _ _ rfl rd_int
    obtain ⟨c, c1, e2, c2, c3, c4⟩ := hf 2 _ 1 _ _ _ rfl rd_int
    obtain ⟨zs, q1, e3, q2, q3⟩ := hf 3 _ 1 _ _ _ rfl rd_zones
    refine ⟨hl, ⟨a, b, c, zs⟩, fun j hj => ?_, ⟨a3, b3, c3⟩, e3, ?_, q3⟩
    · match j, hj with
      | 0, _ => exact a1 0 (by decide)
      | 1, _ => exact b1 0 (by decide)
      | 2, _ => exact c1 0 (by decide)
      | 3, _ => exact q1 0 (by decide)
    · rw [hx]
      congr 1
      match ps, hp, a2, b2, c2, q2 with
      | [p0, p1, p2, p3], _, a2, b2, c2, q2 =>
        simp only [List.getElem?_cons_zero, List.getElem?_cons_succ, Option.some.injEq] at a2 b2 c2 q2
        rw [a2, b2, c2, q2, a4, b4, c4]⟩
/-- A struct that came in: its cells. -/
theorem rd_agg {t : TypeId} {n : Nat} {α : Type} {cells : α → List C} {good : α → DataW H → Prop} (hn : ∀ a, (cells a).length = n) (R : Rd enc Try.prog t n α (fun a => lget (cells a)) good) {W : World} {sp : Nat → Bool} {v : Value} {d : DataW H} {ps : List MemPlace}
    (hv : ∃ cs, v = .agg cs) (h : DataW.Trod enc Try.prog W 0 sp true t v d ps) : ∃ a, good a d ∧ ∀ μ, RepS (heapM W) [] μ (.a (cells a)) v := by
  obtain ⟨cs, rfl⟩ := hv
  obtain ⟨fuel, hf⟩ := h
  obtain ⟨hl, a, a1, a2⟩ := R.out W sp fuel _ _ hf
  refine ⟨a, a2, fun μ => ⟨cs, rfl, ?_, fun j x hx => ?_⟩⟩
  · rw [hn]; simpa [Value.cells] using hl
  · have hj := getL_lt hx
    rw [hn] at hj
    obtain ⟨v, v1, v2⟩ := a1 j hj
    refine ⟨v, by simpa [Value.cells] using v1, ?_⟩
    rw [show lget (cells a) j = x by simp [lget, hx]] at v2
    exact RepF.toC [] μ x v v2
end
end Go.Proofs
