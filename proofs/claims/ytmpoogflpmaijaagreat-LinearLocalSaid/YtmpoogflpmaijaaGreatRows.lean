/-
  No cell of these rows narrows 'for every input' (looked for: loops, veiled, ifaces, maps, wideKeys, modest, calm, conditions, laid).
  DERIVED. THE GIVEN ROWS OF THIS SEAT. 4 by the template 'for every input the law returns true; each argument reads behind the call as it read before'; 0 by the template 'total and deterministic' (their statements: YtmpoogflpmaijaaGreatTotals.lean).
  GIVEN WITH THE SEED: the statements are not yours to turn. If you find one false, say at which input.
  Laid BY PROGRAM, IN A SANDBOX (cutbox-rows.mjs): the forced cells as the released guide's own fill.sh prints them over the translation d4c54713205ce81b… (all of the seat's roots in one cut). By AI agents, Wed Nov 11 2026. No macro, syntax, notation, axiom, sorry.
-/
import Derived.Test.YtmpoogflpmaijaaGreatChecked
import GoSem.Claim
import GoSem.ClaimJoined
import GoSem.ClaimMapViews
import Derived.JoinedTies
import Derived.KernelRfl
namespace Go.Proofs.YtmpoogflpmaijaaGreat
/- THE CELL 'sum', in the pinned program and in every row, IS THE sha256 OF THE DUMP (.gsa) THAT YtmpoogflpmaijaaGreatProg.lean LOADS. Nothing in Lean hashes anything: it is a label: what it is worth is what the hold of that sum in a sandbox is worth. -/
noncomputable def Tryz.pinned : Pinned := { name := "ytmpoogflpmaijaagreat", sum := "d4c54713205ce81b636601c53b87220dcfaaba31961334e3a53d7caa07cdb178", checked := Tryz.checked }
namespace Rows
def none {H : Type} : Left H := { results := [], args := [] }

/-- 'zoneappendlaw19.LinearMade': WHATEVER THE INPUT: true; the input reads as it did. -/
def linearMadeSpec : ChangeSpec := { name := "linearMade", fn := fun _ => fun
  | [d1, d2, d3, d4] => { results := [.lit (.bool true)], args := [d1, d2, d3, d4] }
  | _ => none }
def linearMadeRow : OpenClaim := { program := "ytmpoogflpmaijaagreat", sum := "d4c54713205ce81b636601c53b87220dcfaaba31961334e3a53d7caa07cdb178", func := "zoneappend/zoneappendlaw19.LinearMade", spec := "linearMade", inPlace := ["internal/abi.NoEscape", "internal/bytealg.MakeNoZero", "internal/reflectlite.ValueOf", "internal/reflectlite.Swapper", "(internal/reflectlite.Value).Len"], unfollowed := true, recurses := true, plainKeys := false, apart := false }
def LinearMadeSaid : Prop := linearMadeRow.holds Tryz.pinned (OpenSpec.ofChange linearMadeSpec)

/-- ITS FALSE NEIGHBOUR: 'it returns false'. Refute it at one input. -/
def linearMadeWrong : ChangeSpec := { name := "linearMade", fn := fun _ => fun
  | [d1, d2, d3, d4] => { results := [.lit (.bool false)], args := [d1, d2, d3, d4] }
  | _ => none }
def LinearMadeWrongFalsely : Prop := linearMadeRow.holds Tryz.pinned (OpenSpec.ofChange linearMadeWrong)

/-- 'zoneappendlaw19.LinearFinds': WHATEVER THE INPUT: true; the input reads as it did. -/
def linearFindsSpec : ChangeSpec := { name := "linearFinds", fn := fun _ => fun
  | [d1, d2] => { results := [.lit (.bool true)], args := [d1, d2] }
  | _ => none }
def linearFindsRow : OpenClaim := { program := "ytmpoogflpmaijaagreat", sum := "d4c54713205ce81b636601c53b87220dcfaaba31961334e3a53d7caa07cdb178", func := "zoneappend/zoneappendlaw19.LinearFinds", spec := "linearFinds", inPlace := ["internal/abi.NoEscape", "internal/bytealg.MakeNoZero", "internal/reflectlite.ValueOf", "internal/reflectlite.Swapper", "(internal/reflectlite.Value).Len"], unfollowed := true, recurses := true, plainKeys := false, apart := false }
def LinearFindsSaid : Prop := linearFindsRow.holds Tryz.pinned (OpenSpec.ofChange linearFindsSpec)

/-- ITS FALSE NEIGHBOUR: 'it returns false'. Refute it at one input. -/
def linearFindsWrong : ChangeSpec := { name := "linearFinds", fn := fun _ => fun
  | [d1, d2] => { results := [.lit (.bool false)], args := [d1, d2] }
  | _ => none }
def LinearFindsWrongFalsely : Prop := linearFindsRow.holds Tryz.pinned (OpenSpec.ofChange linearFindsWrong)

/-- 'zoneappendlaw19.LinearRaw': WHATEVER THE INPUT: true; the input reads as it did. -/
def linearRawSpec : ChangeSpec := { name := "linearRaw", fn := fun _ => fun
  | [d1, d2, d3] => { results := [.lit (.bool true)], args := [d1, d2, d3] }
  | _ => none }
def linearRawRow : OpenClaim := { program := "ytmpoogflpmaijaagreat", sum := "d4c54713205ce81b636601c53b87220dcfaaba31961334e3a53d7caa07cdb178", func := "zoneappend/zoneappendlaw19.LinearRaw", spec := "linearRaw", inPlace := ["internal/abi.NoEscape", "internal/bytealg.MakeNoZero", "internal/reflectlite.ValueOf", "internal/reflectlite.Swapper", "(internal/reflectlite.Value).Len"], unfollowed := true, recurses := true, plainKeys := false, apart := false }
def LinearRawSaid : Prop := linearRawRow.holds Tryz.pinned (OpenSpec.ofChange linearRawSpec)

/-- ITS FALSE NEIGHBOUR: 'it returns false'. Refute it at one input. -/
def linearRawWrong : ChangeSpec := { name := "linearRaw", fn := fun _ => fun
  | [d1, d2, d3] => { results := [.lit (.bool false)], args := [d1, d2, d3] }
  | _ => none }
def LinearRawWrongFalsely : Prop := linearRawRow.holds Tryz.pinned (OpenSpec.ofChange linearRawWrong)

/-- 'zoneappendlaw19.LinearLocal': WHATEVER THE INPUT: true; the input reads as it did. -/
def linearLocalSpec : ChangeSpec := { name := "linearLocal", fn := fun _ => fun
  | [d1, d2, d3] => { results := [.lit (.bool true)], args := [d1, d2, d3] }
  | _ => none }
def linearLocalRow : OpenClaim := { program := "ytmpoogflpmaijaagreat", sum := "d4c54713205ce81b636601c53b87220dcfaaba31961334e3a53d7caa07cdb178", func := "zoneappend/zoneappendlaw19.LinearLocal", spec := "linearLocal", inPlace := ["internal/abi.NoEscape", "internal/bytealg.MakeNoZero", "internal/reflectlite.ValueOf", "internal/reflectlite.Swapper", "(internal/reflectlite.Value).Len"], unfollowed := true, recurses := true, plainKeys := false, apart := false }
def LinearLocalSaid : Prop := linearLocalRow.holds Tryz.pinned (OpenSpec.ofChange linearLocalSpec)

/-- ITS FALSE NEIGHBOUR: 'it returns false'. Refute it at one input. -/
def linearLocalWrong : ChangeSpec := { name := "linearLocal", fn := fun _ => fun
  | [d1, d2, d3] => { results := [.lit (.bool false)], args := [d1, d2, d3] }
  | _ => none }
def LinearLocalWrongFalsely : Prop := linearLocalRow.holds Tryz.pinned (OpenSpec.ofChange linearLocalWrong)

/- THE SECOND FORM. 'bulk': how many values and letters a reading holds, each counted each time it is reached (what is shared counts as often as it is met; a slice's spare places count too). A statement '..UptoSaid' is the law's where the arguments, and the package variables that the reading takes, are together of bulk at most 1048576: NARROWER than '..Said'. Prove '..Said' where nothing that the law and all that it calls make is longer than what came in: it says more and counts as full. Else prove '..UptoSaid'. A law counts once. -/
mutual
def uptoBulk {H : Type} : DataW H → Nat
  | .lit (.string bytes) => bytes.length + 1
  | .lit _ => 1
  | .nil => 1
  | .ptr d => uptoBulk d + 1
  | .slice elems spare => uptoBulkAll elems + uptoBulkAll spare + 1
  | .agg parts => uptoBulkAll parts + 1
  | .iface _ d => uptoBulk d + 1
  | .map entries => uptoBulkEntries entries + 1
  | .held _ => 1
def uptoBulkAll {H : Type} : List (DataW H) → Nat
  | [] => 0
  | d :: r => uptoBulk d + uptoBulkAll r
def uptoBulkEntries {H : Type} : List (Lit × DataW H) → Nat
  | [] => 0
  | x :: r => uptoBulkEntry x + uptoBulkEntries r
def uptoBulkEntry {H : Type} : Lit × DataW H → Nat
  | (.string bytes, d) => bytes.length + uptoBulk d + 1
  | (_, d) => uptoBulk d + 1
 end
def uptoSmall : (H : Type) → List (DataW H) → Bool := fun _ ds => decide (uptoBulkAll ds ≤ 1048576)
def OpenSpec.upto (s : _root_.Go.ChangeSpec) : _root_.Go.OpenSpec := { _root_.Go.OpenSpec.ofChange s with cond := some uptoSmall }

/-- 'zoneappendlaw19.LinearMade', WHERE WHAT IT READS IS OF BULK AT MOST 1048576: true; the input reads as it did. -/
def linearMadeUptoRow : OpenClaim := { program := "ytmpoogflpmaijaagreat", sum := "d4c54713205ce81b636601c53b87220dcfaaba31961334e3a53d7caa07cdb178", func := "zoneappend/zoneappendlaw19.LinearMade", spec := "linearMade", inPlace := ["internal/abi.NoEscape", "internal/bytealg.MakeNoZero", "internal/reflectlite.ValueOf", "internal/reflectlite.Swapper", "(internal/reflectlite.Value).Len"], unfollowed := true, recurses := true, plainKeys := false, apart := false, narrowed := true }
def LinearMadeUptoSaid : Prop := linearMadeUptoRow.holds Tryz.pinned (OpenSpec.upto linearMadeSpec)

/-- 'zoneappendlaw19.LinearFinds', WHERE WHAT IT READS IS OF BULK AT MOST 1048576: true; the input reads as it did. -/
def linearFindsUptoRow : OpenClaim := { program := "ytmpoogflpmaijaagreat", sum := "d4c54713205ce81b636601c53b87220dcfaaba31961334e3a53d7caa07cdb178", func := "zoneappend/zoneappendlaw19.LinearFinds", spec := "linearFinds", inPlace := ["internal/abi.NoEscape", "internal/bytealg.MakeNoZero", "internal/reflectlite.ValueOf", "internal/reflectlite.Swapper", "(internal/reflectlite.Value).Len"], unfollowed := true, recurses := true, plainKeys := false, apart := false, narrowed := true }
def LinearFindsUptoSaid : Prop := linearFindsUptoRow.holds Tryz.pinned (OpenSpec.upto linearFindsSpec)

/-- 'zoneappendlaw19.LinearRaw', WHERE WHAT IT READS IS OF BULK AT MOST 1048576: true; the input reads as it did. -/
def linearRawUptoRow : OpenClaim := { program := "ytmpoogflpmaijaagreat", sum := "d4c54713205ce81b636601c53b87220dcfaaba31961334e3a53d7caa07cdb178", func := "zoneappend/zoneappendlaw19.LinearRaw", spec := "linearRaw", inPlace := ["internal/abi.NoEscape", "internal/bytealg.MakeNoZero", "internal/reflectlite.ValueOf", "internal/reflectlite.Swapper", "(internal/reflectlite.Value).Len"], unfollowed := true, recurses := true, plainKeys := false, apart := false, narrowed := true }
def LinearRawUptoSaid : Prop := linearRawUptoRow.holds Tryz.pinned (OpenSpec.upto linearRawSpec)

/-- 'zoneappendlaw19.LinearLocal', WHERE WHAT IT READS IS OF BULK AT MOST 1048576: true; the input reads as it did. -/
def linearLocalUptoRow : OpenClaim := { program := "ytmpoogflpmaijaagreat", sum := "d4c54713205ce81b636601c53b87220dcfaaba31961334e3a53d7caa07cdb178", func := "zoneappend/zoneappendlaw19.LinearLocal", spec := "linearLocal", inPlace := ["internal/abi.NoEscape", "internal/bytealg.MakeNoZero", "internal/reflectlite.ValueOf", "internal/reflectlite.Swapper", "(internal/reflectlite.Value).Len"], unfollowed := true, recurses := true, plainKeys := false, apart := false, narrowed := true }
def LinearLocalUptoSaid : Prop := linearLocalUptoRow.holds Tryz.pinned (OpenSpec.upto linearLocalSpec)

end Rows
end Go.Proofs.YtmpoogflpmaijaaGreat
