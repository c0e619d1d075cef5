/-
  No cell of these rows narrows 'for every input' (looked for: loops, veiled, ifaces, maps, wideKeys, modest, calm, conditions, laid).
  DERIVED. THE GIVEN ROWS OF THIS SEAT. 4 by the template 'for every input the law returns true; each argument reads behind the call as it read before'; 0 by the template 'total and deterministic' (their statements: YtkelkepdcfogaaaGreatTotals.lean).
  GIVEN WITH THE SEED: the statements are not yours to turn. If you find one false, say at which input.
  Laid BY PROGRAM, IN A SANDBOX (cutbox-rows.mjs): the forced cells as the released guide's own fill.sh prints them over the translation d21bf24c71196453… (all of the seat's roots in one cut). By AI agents, Wed Nov 11 2026. No macro, syntax, notation, axiom, sorry.
-/
import Derived.Test.YtkelkepdcfogaaaGreatChecked
import GoSem.Claim
import GoSem.ClaimJoined
import GoSem.ClaimMapViews
import Derived.JoinedTies
import Derived.KernelRfl
namespace Go.Proofs.YtkelkepdcfogaaaGreat
/- THE CELL 'sum', in the pinned program and in every row, IS THE sha256 OF THE DUMP (.gsa) THAT YtkelkepdcfogaaaGreatProg.lean LOADS. Nothing in Lean hashes anything: it is a label: what it is worth is what the hold of that sum in a sandbox is worth. -/
noncomputable def Tryz.pinned : Pinned := { name := "ytkelkepdcfogaaagreat", sum := "d21bf24c7119645351b386094276b5797f9acd7680d51cc92947a56c865aa0c6", checked := Tryz.checked }
namespace Rows
def none {H : Type} : Left H := { results := [], args := [] }

/-- 'zoneappendlaw23.RebuildMade': WHATEVER THE INPUT: true; the input reads as it did. -/
def rebuildMadeSpec : ChangeSpec := { name := "rebuildMade", fn := fun _ => fun
  | [d1, d2, d3, d4] => { results := [.lit (.bool true)], args := [d1, d2, d3, d4] }
  | _ => none }
def rebuildMadeRow : OpenClaim := { program := "ytkelkepdcfogaaagreat", sum := "d21bf24c7119645351b386094276b5797f9acd7680d51cc92947a56c865aa0c6", func := "zoneappend/zoneappendlaw23.RebuildMade", spec := "rebuildMade", inPlace := ["internal/abi.NoEscape", "internal/bytealg.MakeNoZero", "internal/reflectlite.ValueOf", "internal/reflectlite.Swapper", "(internal/reflectlite.Value).Len"], unfollowed := true, recurses := true, apart := false }
def RebuildMadeSaid : Prop := rebuildMadeRow.holds Tryz.pinned (OpenSpec.ofChange rebuildMadeSpec)

/-- ITS FALSE NEIGHBOUR: 'it returns false'. Refute it at one input. -/
def rebuildMadeWrong : ChangeSpec := { name := "rebuildMade", fn := fun _ => fun
  | [d1, d2, d3, d4] => { results := [.lit (.bool false)], args := [d1, d2, d3, d4] }
  | _ => none }
def RebuildMadeWrongFalsely : Prop := rebuildMadeRow.holds Tryz.pinned (OpenSpec.ofChange rebuildMadeWrong)

/-- 'zoneappendlaw23.RebuildPlaces': WHATEVER THE INPUT: true; the input reads as it did. -/
def rebuildPlacesSpec : ChangeSpec := { name := "rebuildPlaces", fn := fun _ => fun
  | [d1, d2, d3, d4] => { results := [.lit (.bool true)], args := [d1, d2, d3, d4] }
  | _ => none }
def rebuildPlacesRow : OpenClaim := { program := "ytkelkepdcfogaaagreat", sum := "d21bf24c7119645351b386094276b5797f9acd7680d51cc92947a56c865aa0c6", func := "zoneappend/zoneappendlaw23.RebuildPlaces", spec := "rebuildPlaces", inPlace := ["internal/abi.NoEscape", "internal/bytealg.MakeNoZero", "internal/reflectlite.ValueOf", "internal/reflectlite.Swapper", "(internal/reflectlite.Value).Len"], unfollowed := true, recurses := true, apart := false }
def RebuildPlacesSaid : Prop := rebuildPlacesRow.holds Tryz.pinned (OpenSpec.ofChange rebuildPlacesSpec)

/-- ITS FALSE NEIGHBOUR: 'it returns false'. Refute it at one input. -/
def rebuildPlacesWrong : ChangeSpec := { name := "rebuildPlaces", fn := fun _ => fun
  | [d1, d2, d3, d4] => { results := [.lit (.bool false)], args := [d1, d2, d3, d4] }
  | _ => none }
def RebuildPlacesWrongFalsely : Prop := rebuildPlacesRow.holds Tryz.pinned (OpenSpec.ofChange rebuildPlacesWrong)

/-- 'zoneappendlaw23.RebuildShards': WHATEVER THE INPUT: true; the input reads as it did. -/
def rebuildShardsSpec : ChangeSpec := { name := "rebuildShards", fn := fun _ => fun
  | [d1, d2] => { results := [.lit (.bool true)], args := [d1, d2] }
  | _ => none }
def rebuildShardsRow : OpenClaim := { program := "ytkelkepdcfogaaagreat", sum := "d21bf24c7119645351b386094276b5797f9acd7680d51cc92947a56c865aa0c6", func := "zoneappend/zoneappendlaw23.RebuildShards", spec := "rebuildShards", inPlace := ["internal/abi.NoEscape", "internal/bytealg.MakeNoZero", "internal/reflectlite.ValueOf", "internal/reflectlite.Swapper", "(internal/reflectlite.Value).Len"], unfollowed := true, recurses := true, apart := false }
def RebuildShardsSaid : Prop := rebuildShardsRow.holds Tryz.pinned (OpenSpec.ofChange rebuildShardsSpec)

/-- ITS FALSE NEIGHBOUR: 'it returns false'. Refute it at one input. -/
def rebuildShardsWrong : ChangeSpec := { name := "rebuildShards", fn := fun _ => fun
  | [d1, d2] => { results := [.lit (.bool false)], args := [d1, d2] }
  | _ => none }
def RebuildShardsWrongFalsely : Prop := rebuildShardsRow.holds Tryz.pinned (OpenSpec.ofChange rebuildShardsWrong)

/-- 'zoneappendlaw23.RebuildOrder': WHATEVER THE INPUT: true; the input reads as it did. -/
def rebuildOrderSpec : ChangeSpec := { name := "rebuildOrder", fn := fun _ => fun
  | [d1, d2, d3] => { results := [.lit (.bool true)], args := [d1, d2, d3] }
  | _ => none }
def rebuildOrderRow : OpenClaim := { program := "ytkelkepdcfogaaagreat", sum := "d21bf24c7119645351b386094276b5797f9acd7680d51cc92947a56c865aa0c6", func := "zoneappend/zoneappendlaw23.RebuildOrder", spec := "rebuildOrder", inPlace := ["internal/abi.NoEscape", "internal/bytealg.MakeNoZero", "internal/reflectlite.ValueOf", "internal/reflectlite.Swapper", "(internal/reflectlite.Value).Len"], unfollowed := true, recurses := true, apart := false }
def RebuildOrderSaid : Prop := rebuildOrderRow.holds Tryz.pinned (OpenSpec.ofChange rebuildOrderSpec)

/-- ITS FALSE NEIGHBOUR: 'it returns false'. Refute it at one input. -/
def rebuildOrderWrong : ChangeSpec := { name := "rebuildOrder", fn := fun _ => fun
  | [d1, d2, d3] => { results := [.lit (.bool false)], args := [d1, d2, d3] }
  | _ => none }
def RebuildOrderWrongFalsely : Prop := rebuildOrderRow.holds Tryz.pinned (OpenSpec.ofChange rebuildOrderWrong)

/- THE SECOND FORM. 'bulk': how many values and letters a reading holds, each counted each time it is reached (what is shared counts as often as it is met; a slice's spare places count too). A statement '..UptoSaid' is the law's where the arguments, and the package variables that the reading takes, are together of bulk at most 1048576: NARROWER than '..Said'. Prove '..Said' where nothing that the law and all that it calls make is longer than what came in: it says more and counts as full. Else prove '..UptoSaid'. A law counts once. -/
mutual
def uptoBulk {H : Type} : DataW H → Nat
  | .lit (.string bytes) => bytes.length + 1
  | .lit _ => 1
  | .nil => 1
  | .ptr d => uptoBulk d + 1
  | .slice elems spare => uptoBulkAll elems + uptoBulkAll spare + 1
  | .agg parts => uptoBulkAll parts + 1
  | .iface _ d => uptoBulk d + 1
  | .map entries => uptoBulkEntries entries + 1
  | .held _ => 1
def uptoBulkAll {H : Type} : List (DataW H) → Nat
  | [] => 0
  | d :: r => uptoBulk d + uptoBulkAll r
def uptoBulkEntries {H : Type} : List (Lit × DataW H) → Nat
  | [] => 0
  | x :: r => uptoBulkEntry x + uptoBulkEntries r
def uptoBulkEntry {H : Type} : Lit × DataW H → Nat
  | (.string bytes, d) => bytes.length + uptoBulk d + 1
  | (_, d) => uptoBulk d + 1
 end
def uptoSmall : (H : Type) → List (DataW H) → Bool := fun _ ds => decide (uptoBulkAll ds ≤ 1048576)
def OpenSpec.upto (s : _root_.Go.ChangeSpec) : _root_.Go.OpenSpec := { _root_.Go.OpenSpec.ofChange s with cond := some uptoSmall }

/-- 'zoneappendlaw23.RebuildMade', WHERE WHAT IT READS IS OF BULK AT MOST 1048576: true; the input reads as it did. -/
def rebuildMadeUptoRow : OpenClaim := { program := "ytkelkepdcfogaaagreat", sum := "d21bf24c7119645351b386094276b5797f9acd7680d51cc92947a56c865aa0c6", func := "zoneappend/zoneappendlaw23.RebuildMade", spec := "rebuildMade", inPlace := ["internal/abi.NoEscape", "internal/bytealg.MakeNoZero", "internal/reflectlite.ValueOf", "internal/reflectlite.Swapper", "(internal/reflectlite.Value).Len"], unfollowed := true, recurses := true, apart := false, narrowed := true }
def RebuildMadeUptoSaid : Prop := rebuildMadeUptoRow.holds Tryz.pinned (OpenSpec.upto rebuildMadeSpec)

/-- 'zoneappendlaw23.RebuildPlaces', WHERE WHAT IT READS IS OF BULK AT MOST 1048576: true; the input reads as it did. -/
def rebuildPlacesUptoRow : OpenClaim := { program := "ytkelkepdcfogaaagreat", sum := "d21bf24c7119645351b386094276b5797f9acd7680d51cc92947a56c865aa0c6", func := "zoneappend/zoneappendlaw23.RebuildPlaces", spec := "rebuildPlaces", inPlace := ["internal/abi.NoEscape", "internal/bytealg.MakeNoZero", "internal/reflectlite.ValueOf", "internal/reflectlite.Swapper", "(internal/reflectlite.Value).Len"], unfollowed := true, recurses := true, apart := false, narrowed := true }
def RebuildPlacesUptoSaid : Prop := rebuildPlacesUptoRow.holds Tryz.pinned (OpenSpec.upto rebuildPlacesSpec)

/-- 'zoneappendlaw23.RebuildShards', WHERE WHAT IT READS IS OF BULK AT MOST 1048576: true; the input reads as it did. -/
def rebuildShardsUptoRow : OpenClaim := { program := "ytkelkepdcfogaaagreat", sum := "d21bf24c7119645351b386094276b5797f9acd7680d51cc92947a56c865aa0c6", func := "zoneappend/zoneappendlaw23.RebuildShards", spec := "rebuildShards", inPlace := ["internal/abi.NoEscape", "internal/bytealg.MakeNoZero", "internal/reflectlite.ValueOf", "internal/reflectlite.Swapper", "(internal/reflectlite.Value).Len"], unfollowed := true, recurses := true, apart := false, narrowed := true }
def RebuildShardsUptoSaid : Prop := rebuildShardsUptoRow.holds Tryz.pinned (OpenSpec.upto rebuildShardsSpec)

/-- 'zoneappendlaw23.RebuildOrder', WHERE WHAT IT READS IS OF BULK AT MOST 1048576: true; the input reads as it did. -/
def rebuildOrderUptoRow : OpenClaim := { program := "ytkelkepdcfogaaagreat", sum := "d21bf24c7119645351b386094276b5797f9acd7680d51cc92947a56c865aa0c6", func := "zoneappend/zoneappendlaw23.RebuildOrder", spec := "rebuildOrder", inPlace := ["internal/abi.NoEscape", "internal/bytealg.MakeNoZero", "internal/reflectlite.ValueOf", "internal/reflectlite.Swapper", "(internal/reflectlite.Value).Len"], unfollowed := true, recurses := true, apart := false, narrowed := true }
def RebuildOrderUptoSaid : Prop := rebuildOrderUptoRow.holds Tryz.pinned (OpenSpec.upto rebuildOrderSpec)

end Rows
end Go.Proofs.YtkelkepdcfogaaaGreat
