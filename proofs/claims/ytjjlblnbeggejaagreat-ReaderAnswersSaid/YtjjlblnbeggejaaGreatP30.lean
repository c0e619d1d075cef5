/- Contracts, lemmas; no condition. -/
import Derived.Test.YtjjlblnbeggejaaGreatP22
import Derived.Test.YtjjlblnbeggejaaGreatP19
import Derived.Test.YtjjlblnbeggejaaGreatP16
import Derived.Test.YtjjlblnbeggejaaGreatP29
import Derived.Test.YtjjlblnbeggejaaGreatP12
import Derived.Test.YtjjlblnbeggejaaGreatP28
import Derived.Test.YtjjlblnbeggejaaGreatP10
import Derived.Test.YtjjlblnbeggejaaGreatP26
import Derived.Test.YtjjlblnbeggejaaGreatP14
set_option linter.all false
section
open Go Go.Am
namespace Go.Proofs
set_option maxRecDepth 20000
end Go.Proofs
end

section
open Go Go.Am
namespace Go.Am
theorem leF.ip {n m : Nat} {g g' : Nat → C} (hm : m ≤ n) (hg : ∀ j, j < m → g j = g' j) : leF (.ip n g) (.ip m g') := by
 rintro F v ⟨b, off, h1, h2⟩
 refine ⟨b, off, h1, fun j hj => ?_⟩
 rw [← hg j hj]
 exact h2 j om
end Go.Am
namespace Go.Proofs
set_option maxRecDepth 20000
theorem Qbc (s : St) (hs : s.small) : PS 63 [.a s.cells] (.a s.cells) :=
 PSpec.rm ((QpN s hs).mono fun x H h => by
  obtain ⟨rfl, rfl⟩ := h
  exact Qwz (FwL.own (s := s) (a := 0) (b := 1) (c := 2) rfl rfl rfl))
theorem Qba : HB 63 := Qqu
end Go.Proofs
end
