/- Contracts and plain lemmas of this seat; no condition. -/
import Derived.Test.YtmollgldghpbkaaGreatCtB
set_option linter.unusedSimpArgs false
set_option linter.unusedVariables false
section
open Go Go.Am
namespace Go.Proofs
set_option maxRecDepth 20000
def Sav.cells (s : Sav) : List C := [.int .i64 s.state, .int .i64 s.done, .int .i64 s.slot, .int .i64 s.seq, .int .i64 s.next, .int .i64 s.cut, Qaw s.ents, Qib s.recs]
end Go.Proofs
end

section
open Go Go.Am
namespace Go.Proofs
set_option maxRecDepth 20000
theorem QoE (a b : Zone) : Qe2 a b = decide (a = b) := by
 unfold Qe2
 rw [Bool.eq_iff_iff]
 cases a; cases b
 simp only [Bool.and_eq_true, decide_eq_true_eq, Zone.mk.injEq]
 constructor
 ·rintro ⟨⟨h1, h2, -⟩, h3⟩; exact ⟨h1, h2, h3⟩
 ·rintro ⟨rfl, rfl, rfl⟩; exact ⟨⟨rfl, rfl, rfl⟩, rfl⟩
theorem Qrr : ∀ a b : List Zone, Qbc a b = decide (a = b)
 | [], [] => by simp [Qbc]
 | x :: r, y :: r' => by
  rw [Bool.eq_iff_iff]
  simp [Qbc, QoE, Qrr r r']
 | [], _ :: _ => by simp [Qbc]
 | _ :: _, [] => by simp [Qbc]
end Go.Proofs
end
