/-
  No cell of these rows narrows 'for every input' (looked for: loops, veiled, ifaces, maps, wideKeys, modest, calm, conditions, laid).
  DERIVED. THE GIVEN ROWS OF THIS SEAT. 5 by the template 'for every input the law returns true; each argument reads behind the call as it read before'; 0 by the template 'total and deterministic' (their statements: YtmollgldghpbkaaGreatTotals.lean).
  GIVEN WITH THE SEED: the statements are not yours to turn. If you find one false, say at which input.
  Laid BY PROGRAM, IN A SANDBOX (cutbox-rows.mjs): the forced cells as the released guide's own fill.sh prints them over the translation 99cfca598a5dfb80… (all of the seat's roots in one cut). By AI agents, Wed Nov 11 2026. No macro, syntax, notation, axiom, sorry.
-/
import Derived.Test.YtmollgldghpbkaaGreatChecked
import GoSem.Claim
import GoSem.ClaimJoined
import GoSem.ClaimMapViews
import Derived.JoinedTies
import Derived.KernelRfl
namespace Go.Proofs.YtmollgldghpbkaaGreat
/- THE CELL 'sum', in the pinned program and in every row, IS THE sha256 OF THE DUMP (.gsa) THAT YtmollgldghpbkaaGreatProg.lean LOADS. Nothing in Lean hashes anything: it is a label: what it is worth is what the hold of that sum in a sandbox is worth. -/
noncomputable def Tryz.pinned : Pinned := { name := "ytmollgldghpbkaagreat", sum := "99cfca598a5dfb80b3aa18b2a47639db60cd1a6a8f7bff68b6cdb758afaee19a", checked := Tryz.checked }
namespace Rows
def none {H : Type} : Left H := { results := [], args := [] }

/-- 'zoneappendlaw28.BarrierSteps': WHATEVER THE INPUT: true; the input reads as it did. -/
def barrierStepsSpec : ChangeSpec := { name := "barrierSteps", fn := fun _ => fun
  | [d1, d2, d3, d4, d5] => { results := [.lit (.bool true)], args := [d1, d2, d3, d4, d5] }
  | _ => none }
def barrierStepsRow : OpenClaim := { program := "ytmollgldghpbkaagreat", sum := "99cfca598a5dfb80b3aa18b2a47639db60cd1a6a8f7bff68b6cdb758afaee19a", func := "zoneappend/zoneappendlaw28.BarrierSteps", spec := "barrierSteps", unfollowed := true, recurses := true, apart := false }
def BarrierStepsSaid : Prop := barrierStepsRow.holds Tryz.pinned (OpenSpec.ofChange barrierStepsSpec)

/-- ITS FALSE NEIGHBOUR: 'it returns false'. Refute it at one input. -/
def barrierStepsWrong : ChangeSpec := { name := "barrierSteps", fn := fun _ => fun
  | [d1, d2, d3, d4, d5] => { results := [.lit (.bool false)], args := [d1, d2, d3, d4, d5] }
  | _ => none }
def BarrierStepsWrongFalsely : Prop := barrierStepsRow.holds Tryz.pinned (OpenSpec.ofChange barrierStepsWrong)

/-- 'zoneappendlaw28.BarrierWaits': WHATEVER THE INPUT: true; the input reads as it did. -/
def barrierWaitsSpec : ChangeSpec := { name := "barrierWaits", fn := fun _ => fun
  | [d] => { results := [.lit (.bool true)], args := [d] }
  | _ => none }
def barrierWaitsRow : OpenClaim := { program := "ytmollgldghpbkaagreat", sum := "99cfca598a5dfb80b3aa18b2a47639db60cd1a6a8f7bff68b6cdb758afaee19a", func := "zoneappend/zoneappendlaw28.BarrierWaits", spec := "barrierWaits", unfollowed := true, recurses := true, apart := false }
def BarrierWaitsSaid : Prop := barrierWaitsRow.holds Tryz.pinned (OpenSpec.ofChange barrierWaitsSpec)

/-- ITS FALSE NEIGHBOUR: 'it returns false'. Refute it at one input. -/
def barrierWaitsWrong : ChangeSpec := { name := "barrierWaits", fn := fun _ => fun
  | [d] => { results := [.lit (.bool false)], args := [d] }
  | _ => none }
def BarrierWaitsWrongFalsely : Prop := barrierWaitsRow.holds Tryz.pinned (OpenSpec.ofChange barrierWaitsWrong)

/-- 'zoneappendlaw24.CoreEvents': WHATEVER THE INPUT: true; the input reads as it did. -/
def coreEventsSpec : ChangeSpec := { name := "coreEvents", fn := fun _ => fun
  | [d1, d2] => { results := [.lit (.bool true)], args := [d1, d2] }
  | _ => none }
def coreEventsRow : OpenClaim := { program := "ytmollgldghpbkaagreat", sum := "99cfca598a5dfb80b3aa18b2a47639db60cd1a6a8f7bff68b6cdb758afaee19a", func := "zoneappend/zoneappendlaw24.CoreEvents", spec := "coreEvents", unfollowed := true, recurses := true, apart := false }
def CoreEventsSaid : Prop := coreEventsRow.holds Tryz.pinned (OpenSpec.ofChange coreEventsSpec)

/-- ITS FALSE NEIGHBOUR: 'it returns false'. Refute it at one input. -/
def coreEventsWrong : ChangeSpec := { name := "coreEvents", fn := fun _ => fun
  | [d1, d2] => { results := [.lit (.bool false)], args := [d1, d2] }
  | _ => none }
def CoreEventsWrongFalsely : Prop := coreEventsRow.holds Tryz.pinned (OpenSpec.ofChange coreEventsWrong)

/-- 'zoneappendlaw24.CoreClosed': WHATEVER THE INPUT: true; the input reads as it did. -/
def coreClosedSpec : ChangeSpec := { name := "coreClosed", fn := fun _ => fun
  | [d1, d2, d3] => { results := [.lit (.bool true)], args := [d1, d2, d3] }
  | _ => none }
def coreClosedRow : OpenClaim := { program := "ytmollgldghpbkaagreat", sum := "99cfca598a5dfb80b3aa18b2a47639db60cd1a6a8f7bff68b6cdb758afaee19a", func := "zoneappend/zoneappendlaw24.CoreClosed", spec := "coreClosed", unfollowed := true, recurses := true, apart := false }
def CoreClosedSaid : Prop := coreClosedRow.holds Tryz.pinned (OpenSpec.ofChange coreClosedSpec)

/-- ITS FALSE NEIGHBOUR: 'it returns false'. Refute it at one input. -/
def coreClosedWrong : ChangeSpec := { name := "coreClosed", fn := fun _ => fun
  | [d1, d2, d3] => { results := [.lit (.bool false)], args := [d1, d2, d3] }
  | _ => none }
def CoreClosedWrongFalsely : Prop := coreClosedRow.holds Tryz.pinned (OpenSpec.ofChange coreClosedWrong)

/-- 'zoneappendlaw24.CoreCut': WHATEVER THE INPUT: true; the input reads as it did. -/
def coreCutSpec : ChangeSpec := { name := "coreCut", fn := fun _ => fun
  | [d] => { results := [.lit (.bool true)], args := [d] }
  | _ => none }
def coreCutRow : OpenClaim := { program := "ytmollgldghpbkaagreat", sum := "99cfca598a5dfb80b3aa18b2a47639db60cd1a6a8f7bff68b6cdb758afaee19a", func := "zoneappend/zoneappendlaw24.CoreCut", spec := "coreCut", unfollowed := true, recurses := true, apart := false }
def CoreCutSaid : Prop := coreCutRow.holds Tryz.pinned (OpenSpec.ofChange coreCutSpec)

/-- ITS FALSE NEIGHBOUR: 'it returns false'. Refute it at one input. -/
def coreCutWrong : ChangeSpec := { name := "coreCut", fn := fun _ => fun
  | [d] => { results := [.lit (.bool false)], args := [d] }
  | _ => none }
def CoreCutWrongFalsely : Prop := coreCutRow.holds Tryz.pinned (OpenSpec.ofChange coreCutWrong)

/- THE SECOND FORM. 'bulk': how many values and letters a reading holds, each counted each time it is reached (what is shared counts as often as it is met; a slice's spare places count too). A statement '..UptoSaid' is the law's where the arguments, and the package variables that the reading takes, are together of bulk at most 1048576: NARROWER than '..Said'. Prove '..Said' where nothing that the law and all that it calls make is longer than what came in: it says more and counts as full. Else prove '..UptoSaid'. A law counts once. -/
mutual
def uptoBulk {H : Type} : DataW H → Nat
  | .lit (.string bytes) => bytes.length + 1
  | .lit _ => 1
  | .nil => 1
  | .ptr d => uptoBulk d + 1
  | .slice elems spare => uptoBulkAll elems + uptoBulkAll spare + 1
  | .agg parts => uptoBulkAll parts + 1
  | .iface _ d => uptoBulk d + 1
  | .map entries => uptoBulkEntries entries + 1
  | .held _ => 1
def uptoBulkAll {H : Type} : List (DataW H) → Nat
  | [] => 0
  | d :: r => uptoBulk d + uptoBulkAll r
def uptoBulkEntries {H : Type} : List (Lit × DataW H) → Nat
  | [] => 0
  | x :: r => uptoBulkEntry x + uptoBulkEntries r
def uptoBulkEntry {H : Type} : Lit × DataW H → Nat
  | (.string bytes, d) => bytes.length + uptoBulk d + 1
  | (_, d) => uptoBulk d + 1
 end
def uptoSmall : (H : Type) → List (DataW H) → Bool := fun _ ds => decide (uptoBulkAll ds ≤ 1048576)
def OpenSpec.upto (s : _root_.Go.ChangeSpec) : _root_.Go.OpenSpec := { _root_.Go.OpenSpec.ofChange s with cond := some uptoSmall }

/-- 'zoneappendlaw28.BarrierSteps', WHERE WHAT IT READS IS OF BULK AT MOST 1048576: true; the input reads as it did. -/
def barrierStepsUptoRow : OpenClaim := { program := "ytmollgldghpbkaagreat", sum := "99cfca598a5dfb80b3aa18b2a47639db60cd1a6a8f7bff68b6cdb758afaee19a", func := "zoneappend/zoneappendlaw28.BarrierSteps", spec := "barrierSteps", unfollowed := true, recurses := true, apart := false, narrowed := true }
def BarrierStepsUptoSaid : Prop := barrierStepsUptoRow.holds Tryz.pinned (OpenSpec.upto barrierStepsSpec)

/-- 'zoneappendlaw28.BarrierWaits', WHERE WHAT IT READS IS OF BULK AT MOST 1048576: true; the input reads as it did. -/
def barrierWaitsUptoRow : OpenClaim := { program := "ytmollgldghpbkaagreat", sum := "99cfca598a5dfb80b3aa18b2a47639db60cd1a6a8f7bff68b6cdb758afaee19a", func := "zoneappend/zoneappendlaw28.BarrierWaits", spec := "barrierWaits", unfollowed := true, recurses := true, apart := false, narrowed := true }
def BarrierWaitsUptoSaid : Prop := barrierWaitsUptoRow.holds Tryz.pinned (OpenSpec.upto barrierWaitsSpec)

/-- 'zoneappendlaw24.CoreEvents', WHERE WHAT IT READS IS OF BULK AT MOST 1048576: true; the input reads as it did. -/
def coreEventsUptoRow : OpenClaim := { program := "ytmollgldghpbkaagreat", sum := "99cfca598a5dfb80b3aa18b2a47639db60cd1a6a8f7bff68b6cdb758afaee19a", func := "zoneappend/zoneappendlaw24.CoreEvents", spec := "coreEvents", unfollowed := true, recurses := true, apart := false, narrowed := true }
def CoreEventsUptoSaid : Prop := coreEventsUptoRow.holds Tryz.pinned (OpenSpec.upto coreEventsSpec)

/-- 'zoneappendlaw24.CoreClosed', WHERE WHAT IT READS IS OF BULK AT MOST 1048576: true; the input reads as it did. -/
def coreClosedUptoRow : OpenClaim := { program := "ytmollgldghpbkaagreat", sum := "99cfca598a5dfb80b3aa18b2a47639db60cd1a6a8f7bff68b6cdb758afaee19a", func := "zoneappend/zoneappendlaw24.CoreClosed", spec := "coreClosed", unfollowed := true, recurses := true, apart := false, narrowed := true }
def CoreClosedUptoSaid : Prop := coreClosedUptoRow.holds Tryz.pinned (OpenSpec.upto coreClosedSpec)

/-- 'zoneappendlaw24.CoreCut', WHERE WHAT IT READS IS OF BULK AT MOST 1048576: true; the input reads as it did. -/
def coreCutUptoRow : OpenClaim := { program := "ytmollgldghpbkaagreat", sum := "99cfca598a5dfb80b3aa18b2a47639db60cd1a6a8f7bff68b6cdb758afaee19a", func := "zoneappend/zoneappendlaw24.CoreCut", spec := "coreCut", unfollowed := true, recurses := true, apart := false, narrowed := true }
def CoreCutUptoSaid : Prop := coreCutUptoRow.holds Tryz.pinned (OpenSpec.upto coreCutSpec)

end Rows
end Go.Proofs.YtmollgldghpbkaaGreat
