/- Contracts, lemmas; no condition. -/
import Derived.Test.YtmollgldghpbkaaGreatGC
set_option linter.all false
open Go Go.Am
namespace Go.Proofs
set_option maxRecDepth 20000
def begA (s : St) (q : Int) : Bool := Qz s && decide (0 ≤ q ∧ q < s.works.length ∧ (s.works.getD q.toNat default).state = 0) && (Qah (s.rings.getD q.toNat default)).2.2 && decide (cmdE s.cfg (Qah (s.rings.getD q.toNat default)).2.1 = 0)
theorem begA_iff {s : St} {q : Int} : begA s q = true ↔ (Qz s = true ∧ 0 ≤ q ∧ q < s.works.length ∧ (s.works.getD q.toNat default).state = 0) ∧ (Qah (s.rings.getD q.toNat default)).2.2 = true ∧ cmdE s.cfg (Qah (s.rings.getD q.toNat default)).2.1 = 0 := by
 unfold begA
 simp only [Bool.and_eq_true, decide_eq_true_eq]
 exact ⟨fun ⟨⟨⟨a, b⟩, c⟩, d⟩ => ⟨⟨a, b⟩, c, d⟩, fun ⟨⟨a, b⟩, c, d⟩ => ⟨⟨⟨a, b⟩, c⟩, d⟩⟩
end Go.Proofs





