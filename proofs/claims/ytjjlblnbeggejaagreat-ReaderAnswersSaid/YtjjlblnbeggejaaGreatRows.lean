/-
  No cell of these rows narrows 'for every input' (looked for: loops, veiled, ifaces, maps, wideKeys, modest, calm, conditions, laid).
  DERIVED. THE GIVEN ROWS OF THIS SEAT. 5 by the template 'for every input the law returns true; each argument reads behind the call as it read before'; 0 by the template 'total and deterministic' (their statements: YtjjlblnbeggejaaGreatTotals.lean).
  GIVEN WITH THE SEED: the statements are not yours to turn. If you find one false, say at which input.
  Laid BY PROGRAM, IN A SANDBOX (cutbox-rows.mjs): the forced cells as the released guide's own fill.sh prints them over the translation 6942d12454ea0bf5… (all of the seat's roots in one cut). By AI agents, Wed Nov 11 2026. No macro, syntax, notation, axiom, sorry.
-/
import Derived.Test.YtjjlblnbeggejaaGreatChecked
import GoSem.Claim
import GoSem.ClaimJoined
import GoSem.ClaimMapViews
import Derived.JoinedTies
import Derived.KernelRfl
namespace Go.Proofs.YtjjlblnbeggejaaGreat
/- THE CELL 'sum', in the pinned program and in every row, IS THE sha256 OF THE DUMP (.gsa) THAT YtjjlblnbeggejaaGreatProg.lean LOADS. Nothing in Lean hashes anything: it is a label: what it is worth is what the hold of that sum in a sandbox is worth. -/
noncomputable def Tryz.pinned : Pinned := { name := "ytjjlblnbeggejaagreat", sum := "6942d12454ea0bf58c2238fbac39c221a9987109608bba09775d9e8e007427c4", checked := Tryz.checked }
namespace Rows
def none {H : Type} : Left H := { results := [], args := [] }

/-- 'zoneappendlaw30.ReclaimerSteps': WHATEVER THE INPUT: true; the input reads as it did. -/
def reclaimerStepsSpec : ChangeSpec := { name := "reclaimerSteps", fn := fun _ => fun
  | [d1, d2, d3, d4] => { results := [.lit (.bool true)], args := [d1, d2, d3, d4] }
  | _ => none }
def reclaimerStepsRow : OpenClaim := { program := "ytjjlblnbeggejaagreat", sum := "6942d12454ea0bf58c2238fbac39c221a9987109608bba09775d9e8e007427c4", func := "zoneappend/zoneappendlaw30.ReclaimerSteps", spec := "reclaimerSteps", inPlace := ["slices.overlaps[int]"], unfollowed := true, recurses := true, apart := false }
def ReclaimerStepsSaid : Prop := reclaimerStepsRow.holds Tryz.pinned (OpenSpec.ofChange reclaimerStepsSpec)

/-- ITS FALSE NEIGHBOUR: 'it returns false'. Refute it at one input. -/
def reclaimerStepsWrong : ChangeSpec := { name := "reclaimerSteps", fn := fun _ => fun
  | [d1, d2, d3, d4] => { results := [.lit (.bool false)], args := [d1, d2, d3, d4] }
  | _ => none }
def ReclaimerStepsWrongFalsely : Prop := reclaimerStepsRow.holds Tryz.pinned (OpenSpec.ofChange reclaimerStepsWrong)

/-- 'zoneappendlaw30.ReclaimerWaits': WHATEVER THE INPUT: true; the input reads as it did. -/
def reclaimerWaitsSpec : ChangeSpec := { name := "reclaimerWaits", fn := fun _ => fun
  | [d1, d2] => { results := [.lit (.bool true)], args := [d1, d2] }
  | _ => none }
def reclaimerWaitsRow : OpenClaim := { program := "ytjjlblnbeggejaagreat", sum := "6942d12454ea0bf58c2238fbac39c221a9987109608bba09775d9e8e007427c4", func := "zoneappend/zoneappendlaw30.ReclaimerWaits", spec := "reclaimerWaits", inPlace := ["slices.overlaps[int]"], unfollowed := true, recurses := true, apart := false }
def ReclaimerWaitsSaid : Prop := reclaimerWaitsRow.holds Tryz.pinned (OpenSpec.ofChange reclaimerWaitsSpec)

/-- ITS FALSE NEIGHBOUR: 'it returns false'. Refute it at one input. -/
def reclaimerWaitsWrong : ChangeSpec := { name := "reclaimerWaits", fn := fun _ => fun
  | [d1, d2] => { results := [.lit (.bool false)], args := [d1, d2] }
  | _ => none }
def ReclaimerWaitsWrongFalsely : Prop := reclaimerWaitsRow.holds Tryz.pinned (OpenSpec.ofChange reclaimerWaitsWrong)

/-- 'zoneappendlaw26.ReaderSteps': WHATEVER THE INPUT: true; the input reads as it did. -/
def readerStepsSpec : ChangeSpec := { name := "readerSteps", fn := fun _ => fun
  | [d1, d2, d3, d4, d5] => { results := [.lit (.bool true)], args := [d1, d2, d3, d4, d5] }
  | _ => none }
def readerStepsRow : OpenClaim := { program := "ytjjlblnbeggejaagreat", sum := "6942d12454ea0bf58c2238fbac39c221a9987109608bba09775d9e8e007427c4", func := "zoneappend/zoneappendlaw26.ReaderSteps", spec := "readerSteps", inPlace := ["internal/abi.NoEscape", "internal/bytealg.MakeNoZero"], unfollowed := true, recurses := true, apart := false }
def ReaderStepsSaid : Prop := readerStepsRow.holds Tryz.pinned (OpenSpec.ofChange readerStepsSpec)

/-- ITS FALSE NEIGHBOUR: 'it returns false'. Refute it at one input. -/
def readerStepsWrong : ChangeSpec := { name := "readerSteps", fn := fun _ => fun
  | [d1, d2, d3, d4, d5] => { results := [.lit (.bool false)], args := [d1, d2, d3, d4, d5] }
  | _ => none }
def ReaderStepsWrongFalsely : Prop := readerStepsRow.holds Tryz.pinned (OpenSpec.ofChange readerStepsWrong)

/-- 'zoneappendlaw26.ReaderAnswers': WHATEVER THE INPUT: true; the input reads as it did. -/
def readerAnswersSpec : ChangeSpec := { name := "readerAnswers", fn := fun _ => fun
  | [d1, d2] => { results := [.lit (.bool true)], args := [d1, d2] }
  | _ => none }
def readerAnswersRow : OpenClaim := { program := "ytjjlblnbeggejaagreat", sum := "6942d12454ea0bf58c2238fbac39c221a9987109608bba09775d9e8e007427c4", func := "zoneappend/zoneappendlaw26.ReaderAnswers", spec := "readerAnswers", inPlace := ["internal/abi.NoEscape", "internal/bytealg.MakeNoZero"], unfollowed := true, recurses := true, apart := false }
def ReaderAnswersSaid : Prop := readerAnswersRow.holds Tryz.pinned (OpenSpec.ofChange readerAnswersSpec)

/-- ITS FALSE NEIGHBOUR: 'it returns false'. Refute it at one input. -/
def readerAnswersWrong : ChangeSpec := { name := "readerAnswers", fn := fun _ => fun
  | [d1, d2] => { results := [.lit (.bool false)], args := [d1, d2] }
  | _ => none }
def ReaderAnswersWrongFalsely : Prop := readerAnswersRow.holds Tryz.pinned (OpenSpec.ofChange readerAnswersWrong)

/-- 'zoneappendlaw25.LaneFills': WHATEVER THE INPUT: true; the input reads as it did. -/
def laneFillsSpec : ChangeSpec := { name := "laneFills", fn := fun _ => fun
  | [d1, d2, d3] => { results := [.lit (.bool true)], args := [d1, d2, d3] }
  | _ => none }
def laneFillsRow : OpenClaim := { program := "ytjjlblnbeggejaagreat", sum := "6942d12454ea0bf58c2238fbac39c221a9987109608bba09775d9e8e007427c4", func := "zoneappend/zoneappendlaw25.LaneFills", spec := "laneFills", inPlace := ["internal/abi.NoEscape", "internal/bytealg.MakeNoZero"], unfollowed := true, recurses := true, apart := false }
def LaneFillsSaid : Prop := laneFillsRow.holds Tryz.pinned (OpenSpec.ofChange laneFillsSpec)

/-- ITS FALSE NEIGHBOUR: 'it returns false'. Refute it at one input. -/
def laneFillsWrong : ChangeSpec := { name := "laneFills", fn := fun _ => fun
  | [d1, d2, d3] => { results := [.lit (.bool false)], args := [d1, d2, d3] }
  | _ => none }
def LaneFillsWrongFalsely : Prop := laneFillsRow.holds Tryz.pinned (OpenSpec.ofChange laneFillsWrong)

/- THE SECOND FORM. 'bulk': how many values and letters a reading holds, each counted each time it is reached (what is shared counts as often as it is met; a slice's spare places count too). A statement '..UptoSaid' is the law's where the arguments, and the package variables that the reading takes, are together of bulk at most 1048576: NARROWER than '..Said'. Prove '..Said' where nothing that the law and all that it calls make is longer than what came in: it says more and counts as full. Else prove '..UptoSaid'. A law counts once. -/
mutual
def uptoBulk {H : Type} : DataW H → Nat
  | .lit (.string bytes) => bytes.length + 1
  | .lit _ => 1
  | .nil => 1
  | .ptr d => uptoBulk d + 1
  | .slice elems spare => uptoBulkAll elems + uptoBulkAll spare + 1
  | .agg parts => uptoBulkAll parts + 1
  | .iface _ d => uptoBulk d + 1
  | .map entries => uptoBulkEntries entries + 1
  | .held _ => 1
def uptoBulkAll {H : Type} : List (DataW H) → Nat
  | [] => 0
  | d :: r => uptoBulk d + uptoBulkAll r
def uptoBulkEntries {H : Type} : List (Lit × DataW H) → Nat
  | [] => 0
  | x :: r => uptoBulkEntry x + uptoBulkEntries r
def uptoBulkEntry {H : Type} : Lit × DataW H → Nat
  | (.string bytes, d) => bytes.length + uptoBulk d + 1
  | (_, d) => uptoBulk d + 1
 end
def uptoSmall : (H : Type) → List (DataW H) → Bool := fun _ ds => decide (uptoBulkAll ds ≤ 1048576)
def OpenSpec.upto (s : _root_.Go.ChangeSpec) : _root_.Go.OpenSpec := { _root_.Go.OpenSpec.ofChange s with cond := some uptoSmall }

/-- 'zoneappendlaw30.ReclaimerSteps', WHERE WHAT IT READS IS OF BULK AT MOST 1048576: true; the input reads as it did. -/
def reclaimerStepsUptoRow : OpenClaim := { program := "ytjjlblnbeggejaagreat", sum := "6942d12454ea0bf58c2238fbac39c221a9987109608bba09775d9e8e007427c4", func := "zoneappend/zoneappendlaw30.ReclaimerSteps", spec := "reclaimerSteps", inPlace := ["slices.overlaps[int]"], unfollowed := true, recurses := true, apart := false, narrowed := true }
def ReclaimerStepsUptoSaid : Prop := reclaimerStepsUptoRow.holds Tryz.pinned (OpenSpec.upto reclaimerStepsSpec)

/-- 'zoneappendlaw30.ReclaimerWaits', WHERE WHAT IT READS IS OF BULK AT MOST 1048576: true; the input reads as it did. -/
def reclaimerWaitsUptoRow : OpenClaim := { program := "ytjjlblnbeggejaagreat", sum := "6942d12454ea0bf58c2238fbac39c221a9987109608bba09775d9e8e007427c4", func := "zoneappend/zoneappendlaw30.ReclaimerWaits", spec := "reclaimerWaits", inPlace := ["slices.overlaps[int]"], unfollowed := true, recurses := true, apart := false, narrowed := true }
def ReclaimerWaitsUptoSaid : Prop := reclaimerWaitsUptoRow.holds Tryz.pinned (OpenSpec.upto reclaimerWaitsSpec)

/-- 'zoneappendlaw26.ReaderSteps', WHERE WHAT IT READS IS OF BULK AT MOST 1048576: true; the input reads as it did. -/
def readerStepsUptoRow : OpenClaim := { program := "ytjjlblnbeggejaagreat", sum := "6942d12454ea0bf58c2238fbac39c221a9987109608bba09775d9e8e007427c4", func := "zoneappend/zoneappendlaw26.ReaderSteps", spec := "readerSteps", inPlace := ["internal/abi.NoEscape", "internal/bytealg.MakeNoZero"], unfollowed := true, recurses := true, apart := false, narrowed := true }
def ReaderStepsUptoSaid : Prop := readerStepsUptoRow.holds Tryz.pinned (OpenSpec.upto readerStepsSpec)

/-- 'zoneappendlaw26.ReaderAnswers', WHERE WHAT IT READS IS OF BULK AT MOST 1048576: true; the input reads as it did. -/
def readerAnswersUptoRow : OpenClaim := { program := "ytjjlblnbeggejaagreat", sum := "6942d12454ea0bf58c2238fbac39c221a9987109608bba09775d9e8e007427c4", func := "zoneappend/zoneappendlaw26.ReaderAnswers", spec := "readerAnswers", inPlace := ["internal/abi.NoEscape", "internal/bytealg.MakeNoZero"], unfollowed := true, recurses := true, apart := false, narrowed := true }
def ReaderAnswersUptoSaid : Prop := readerAnswersUptoRow.holds Tryz.pinned (OpenSpec.upto readerAnswersSpec)

/-- 'zoneappendlaw25.LaneFills', WHERE WHAT IT READS IS OF BULK AT MOST 1048576: true; the input reads as it did. -/
def laneFillsUptoRow : OpenClaim := { program := "ytjjlblnbeggejaagreat", sum := "6942d12454ea0bf58c2238fbac39c221a9987109608bba09775d9e8e007427c4", func := "zoneappend/zoneappendlaw25.LaneFills", spec := "laneFills", inPlace := ["internal/abi.NoEscape", "internal/bytealg.MakeNoZero"], unfollowed := true, recurses := true, apart := false, narrowed := true }
def LaneFillsUptoSaid : Prop := laneFillsUptoRow.holds Tryz.pinned (OpenSpec.upto laneFillsSpec)

end Rows
end Go.Proofs.YtjjlblnbeggejaaGreat
