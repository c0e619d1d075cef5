/-
  No cell of these rows narrows 'for every input' (looked for: loops, veiled, ifaces, maps, wideKeys, modest, calm, conditions, laid).
  DERIVED. THE GIVEN ROWS OF THIS SEAT. 10 by the template 'for every input the law returns true; each argument reads behind the call as it read before'; 0 by the template 'total and deterministic' (their statements: YtbdhjlanfigdgaaTotals.lean).
  GIVEN WITH THE SEED: the statements are not yours to turn. If you find one false, say at which input.
  Laid BY PROGRAM, IN A SANDBOX (cutbox-rows.mjs): the forced cells as the released guide's own fill.sh prints them over the translation 8b7ee072d6ae4688… (all of the seat's roots in one cut). By AI agents, Wed Nov 11 2026. No macro, syntax, notation, axiom, sorry.
-/
import Derived.Test.YtbdhjlanfigdgaaChecked
import GoSem.Claim
import GoSem.ClaimJoined
import GoSem.ClaimMapViews
import Derived.JoinedTies
import Derived.KernelRfl
namespace Go.Proofs.Ytbdhjlanfigdgaa
/- THE CELL 'sum', in the pinned program and in every row, IS THE sha256 OF THE DUMP (.gsa) THAT YtbdhjlanfigdgaaProg.lean LOADS. Nothing in Lean hashes anything: it is a label: what it is worth is what the hold of that sum in a sandbox is worth. -/
noncomputable def Try.pinned : Pinned := { name := "ytbdhjlanfigdgaa", sum := "8b7ee072d6ae4688145df4c1d676afd962e598264eb109b423a2bdcb04303fd7", checked := Try.checked }
namespace Rows
def none {H : Type} : Left H := { results := [], args := [] }

/-- 'zoneappendlaw06.MediaRaw': WHATEVER THE INPUT: true; the input reads as it did. -/
def mediaRawSpec : ChangeSpec := { name := "mediaRaw", fn := fun _ => fun
  | [d1, d2] => { results := [.lit (.bool true)], args := [d1, d2] }
  | _ => none }
def mediaRawRow : OpenClaim := { program := "ytbdhjlanfigdgaa", sum := "8b7ee072d6ae4688145df4c1d676afd962e598264eb109b423a2bdcb04303fd7", func := "zoneappend/zoneappendlaw06.MediaRaw", spec := "mediaRaw", unfollowed := true, recurses := true, apart := false }
def MediaRawSaid : Prop := mediaRawRow.holds Try.pinned (OpenSpec.ofChange mediaRawSpec)

/-- ITS FALSE NEIGHBOUR: 'it returns false'. Refute it at one input. -/
def mediaRawWrong : ChangeSpec := { name := "mediaRaw", fn := fun _ => fun
  | [d1, d2] => { results := [.lit (.bool false)], args := [d1, d2] }
  | _ => none }
def MediaRawWrongFalsely : Prop := mediaRawRow.holds Try.pinned (OpenSpec.ofChange mediaRawWrong)

/-- 'zoneappendlaw06.MediaMade': WHATEVER THE INPUT: true; the input reads as it did. -/
def mediaMadeSpec : ChangeSpec := { name := "mediaMade", fn := fun _ => fun
  | [d1, d2, d3, d4, d5] => { results := [.lit (.bool true)], args := [d1, d2, d3, d4, d5] }
  | _ => none }
def mediaMadeRow : OpenClaim := { program := "ytbdhjlanfigdgaa", sum := "8b7ee072d6ae4688145df4c1d676afd962e598264eb109b423a2bdcb04303fd7", func := "zoneappend/zoneappendlaw06.MediaMade", spec := "mediaMade", unfollowed := true, recurses := true, apart := false }
def MediaMadeSaid : Prop := mediaMadeRow.holds Try.pinned (OpenSpec.ofChange mediaMadeSpec)

/-- ITS FALSE NEIGHBOUR: 'it returns false'. Refute it at one input. -/
def mediaMadeWrong : ChangeSpec := { name := "mediaMade", fn := fun _ => fun
  | [d1, d2, d3, d4, d5] => { results := [.lit (.bool false)], args := [d1, d2, d3, d4, d5] }
  | _ => none }
def MediaMadeWrongFalsely : Prop := mediaMadeRow.holds Try.pinned (OpenSpec.ofChange mediaMadeWrong)

/-- 'zoneappendlaw06.MediaKeeps': WHATEVER THE INPUT: true; the input reads as it did. -/
def mediaKeepsSpec : ChangeSpec := { name := "mediaKeeps", fn := fun _ => fun
  | [d1, d2, d3] => { results := [.lit (.bool true)], args := [d1, d2, d3] }
  | _ => none }
def mediaKeepsRow : OpenClaim := { program := "ytbdhjlanfigdgaa", sum := "8b7ee072d6ae4688145df4c1d676afd962e598264eb109b423a2bdcb04303fd7", func := "zoneappend/zoneappendlaw06.MediaKeeps", spec := "mediaKeeps", unfollowed := true, recurses := true, apart := false }
def MediaKeepsSaid : Prop := mediaKeepsRow.holds Try.pinned (OpenSpec.ofChange mediaKeepsSpec)

/-- ITS FALSE NEIGHBOUR: 'it returns false'. Refute it at one input. -/
def mediaKeepsWrong : ChangeSpec := { name := "mediaKeeps", fn := fun _ => fun
  | [d1, d2, d3] => { results := [.lit (.bool false)], args := [d1, d2, d3] }
  | _ => none }
def MediaKeepsWrongFalsely : Prop := mediaKeepsRow.holds Try.pinned (OpenSpec.ofChange mediaKeepsWrong)

/-- 'zoneappendlaw06.MediaMore': WHATEVER THE INPUT: true; the input reads as it did. -/
def mediaMoreSpec : ChangeSpec := { name := "mediaMore", fn := fun _ => fun
  | [d1, d2, d3] => { results := [.lit (.bool true)], args := [d1, d2, d3] }
  | _ => none }
def mediaMoreRow : OpenClaim := { program := "ytbdhjlanfigdgaa", sum := "8b7ee072d6ae4688145df4c1d676afd962e598264eb109b423a2bdcb04303fd7", func := "zoneappend/zoneappendlaw06.MediaMore", spec := "mediaMore", unfollowed := true, recurses := true, apart := false }
def MediaMoreSaid : Prop := mediaMoreRow.holds Try.pinned (OpenSpec.ofChange mediaMoreSpec)

/-- ITS FALSE NEIGHBOUR: 'it returns false'. Refute it at one input. -/
def mediaMoreWrong : ChangeSpec := { name := "mediaMore", fn := fun _ => fun
  | [d1, d2, d3] => { results := [.lit (.bool false)], args := [d1, d2, d3] }
  | _ => none }
def MediaMoreWrongFalsely : Prop := mediaMoreRow.holds Try.pinned (OpenSpec.ofChange mediaMoreWrong)

/-- 'zoneappendlaw05.ZnsNew': WHATEVER THE INPUT: true; the input reads as it did. -/
def znsNewSpec : ChangeSpec := { name := "znsNew", fn := fun _ => fun
  | [d1, d2, d3, d4] => { results := [.lit (.bool true)], args := [d1, d2, d3, d4] }
  | _ => none }
def znsNewRow : OpenClaim := { program := "ytbdhjlanfigdgaa", sum := "8b7ee072d6ae4688145df4c1d676afd962e598264eb109b423a2bdcb04303fd7", func := "zoneappend/zoneappendlaw05.ZnsNew", spec := "znsNew", apart := false }
def ZnsNewSaid : Prop := znsNewRow.holds Try.pinned (OpenSpec.ofChange znsNewSpec)

/-- ITS FALSE NEIGHBOUR: 'it returns false'. Refute it at one input. -/
def znsNewWrong : ChangeSpec := { name := "znsNew", fn := fun _ => fun
  | [d1, d2, d3, d4] => { results := [.lit (.bool false)], args := [d1, d2, d3, d4] }
  | _ => none }
def ZnsNewWrongFalsely : Prop := znsNewRow.holds Try.pinned (OpenSpec.ofChange znsNewWrong)

/-- 'zoneappendlaw05.ZnsFills': WHATEVER THE INPUT: true; the input reads as it did. -/
def znsFillsSpec : ChangeSpec := { name := "znsFills", fn := fun _ => fun
  | [d1, d2] => { results := [.lit (.bool true)], args := [d1, d2] }
  | _ => none }
def znsFillsRow : OpenClaim := { program := "ytbdhjlanfigdgaa", sum := "8b7ee072d6ae4688145df4c1d676afd962e598264eb109b423a2bdcb04303fd7", func := "zoneappend/zoneappendlaw05.ZnsFills", spec := "znsFills", apart := false }
def ZnsFillsSaid : Prop := znsFillsRow.holds Try.pinned (OpenSpec.ofChange znsFillsSpec)

/-- ITS FALSE NEIGHBOUR: 'it returns false'. Refute it at one input. -/
def znsFillsWrong : ChangeSpec := { name := "znsFills", fn := fun _ => fun
  | [d1, d2] => { results := [.lit (.bool false)], args := [d1, d2] }
  | _ => none }
def ZnsFillsWrongFalsely : Prop := znsFillsRow.holds Try.pinned (OpenSpec.ofChange znsFillsWrong)

/-- 'zoneappendlaw05.ZnsRaw': WHATEVER THE INPUT: true; the input reads as it did. -/
def znsRawSpec : ChangeSpec := { name := "znsRaw", fn := fun _ => fun
  | [d1, d2, d3, d4] => { results := [.lit (.bool true)], args := [d1, d2, d3, d4] }
  | _ => none }
def znsRawRow : OpenClaim := { program := "ytbdhjlanfigdgaa", sum := "8b7ee072d6ae4688145df4c1d676afd962e598264eb109b423a2bdcb04303fd7", func := "zoneappend/zoneappendlaw05.ZnsRaw", spec := "znsRaw", apart := false }
def ZnsRawSaid : Prop := znsRawRow.holds Try.pinned (OpenSpec.ofChange znsRawSpec)

/-- ITS FALSE NEIGHBOUR: 'it returns false'. Refute it at one input. -/
def znsRawWrong : ChangeSpec := { name := "znsRaw", fn := fun _ => fun
  | [d1, d2, d3, d4] => { results := [.lit (.bool false)], args := [d1, d2, d3, d4] }
  | _ => none }
def ZnsRawWrongFalsely : Prop := znsRawRow.holds Try.pinned (OpenSpec.ofChange znsRawWrong)

/-- 'zoneappendlaw05.ZnsMade': WHATEVER THE INPUT: true; the input reads as it did. -/
def znsMadeSpec : ChangeSpec := { name := "znsMade", fn := fun _ => fun
  | [d1, d2, d3, d4, d5] => { results := [.lit (.bool true)], args := [d1, d2, d3, d4, d5] }
  | _ => none }
def znsMadeRow : OpenClaim := { program := "ytbdhjlanfigdgaa", sum := "8b7ee072d6ae4688145df4c1d676afd962e598264eb109b423a2bdcb04303fd7", func := "zoneappend/zoneappendlaw05.ZnsMade", spec := "znsMade", apart := false }
def ZnsMadeSaid : Prop := znsMadeRow.holds Try.pinned (OpenSpec.ofChange znsMadeSpec)

/-- ITS FALSE NEIGHBOUR: 'it returns false'. Refute it at one input. -/
def znsMadeWrong : ChangeSpec := { name := "znsMade", fn := fun _ => fun
  | [d1, d2, d3, d4, d5] => { results := [.lit (.bool false)], args := [d1, d2, d3, d4, d5] }
  | _ => none }
def ZnsMadeWrongFalsely : Prop := znsMadeRow.holds Try.pinned (OpenSpec.ofChange znsMadeWrong)

/-- 'zoneappendlaw05.ZnsStays': WHATEVER THE INPUT: true; the input reads as it did. -/
def znsStaysSpec : ChangeSpec := { name := "znsStays", fn := fun _ => fun
  | [d1, d2] => { results := [.lit (.bool true)], args := [d1, d2] }
  | _ => none }
def znsStaysRow : OpenClaim := { program := "ytbdhjlanfigdgaa", sum := "8b7ee072d6ae4688145df4c1d676afd962e598264eb109b423a2bdcb04303fd7", func := "zoneappend/zoneappendlaw05.ZnsStays", spec := "znsStays", apart := false }
def ZnsStaysSaid : Prop := znsStaysRow.holds Try.pinned (OpenSpec.ofChange znsStaysSpec)

/-- ITS FALSE NEIGHBOUR: 'it returns false'. Refute it at one input. -/
def znsStaysWrong : ChangeSpec := { name := "znsStays", fn := fun _ => fun
  | [d1, d2] => { results := [.lit (.bool false)], args := [d1, d2] }
  | _ => none }
def ZnsStaysWrongFalsely : Prop := znsStaysRow.holds Try.pinned (OpenSpec.ofChange znsStaysWrong)

/-- 'zoneappendlaw05.ZnsLimits': WHATEVER THE INPUT: true; the input reads as it did. -/
def znsLimitsSpec : ChangeSpec := { name := "znsLimits", fn := fun _ => fun
  | [d1, d2] => { results := [.lit (.bool true)], args := [d1, d2] }
  | _ => none }
def znsLimitsRow : OpenClaim := { program := "ytbdhjlanfigdgaa", sum := "8b7ee072d6ae4688145df4c1d676afd962e598264eb109b423a2bdcb04303fd7", func := "zoneappend/zoneappendlaw05.ZnsLimits", spec := "znsLimits", apart := false }
def ZnsLimitsSaid : Prop := znsLimitsRow.holds Try.pinned (OpenSpec.ofChange znsLimitsSpec)

/-- ITS FALSE NEIGHBOUR: 'it returns false'. Refute it at one input. -/
def znsLimitsWrong : ChangeSpec := { name := "znsLimits", fn := fun _ => fun
  | [d1, d2] => { results := [.lit (.bool false)], args := [d1, d2] }
  | _ => none }
def ZnsLimitsWrongFalsely : Prop := znsLimitsRow.holds Try.pinned (OpenSpec.ofChange znsLimitsWrong)

/- THE SECOND FORM. 'bulk': how many values and letters a reading holds, each counted each time it is reached (what is shared counts as often as it is met; a slice's spare places count too). A statement '..UptoSaid' is the law's where the arguments, and the package variables that the reading takes, are together of bulk at most 1048576: NARROWER than '..Said'. Prove '..Said' where nothing that the law and all that it calls make is longer than what came in: it says more and counts as full. Else prove '..UptoSaid'. A law counts once. -/
mutual
def uptoBulk {H : Type} : DataW H → Nat
  | .lit (.string bytes) => bytes.length + 1
  | .lit _ => 1
  | .nil => 1
  | .ptr d => uptoBulk d + 1
  | .slice elems spare => uptoBulkAll elems + uptoBulkAll spare + 1
  | .agg parts => uptoBulkAll parts + 1
  | .iface _ d => uptoBulk d + 1
  | .map entries => uptoBulkEntries entries + 1
  | .held _ => 1
def uptoBulkAll {H : Type} : List (DataW H) → Nat
  | [] => 0
  | d :: r => uptoBulk d + uptoBulkAll r
def uptoBulkEntries {H : Type} : List (Lit × DataW H) → Nat
  | [] => 0
  | x :: r => uptoBulkEntry x + uptoBulkEntries r
def uptoBulkEntry {H : Type} : Lit × DataW H → Nat
  | (.string bytes, d) => bytes.length + uptoBulk d + 1
  | (_, d) => uptoBulk d + 1
 end
def uptoSmall : (H : Type) → List (DataW H) → Bool := fun _ ds => decide (uptoBulkAll ds ≤ 1048576)
def OpenSpec.upto (s : _root_.Go.ChangeSpec) : _root_.Go.OpenSpec := { _root_.Go.OpenSpec.ofChange s with cond := some uptoSmall }

/-- 'zoneappendlaw06.MediaRaw', WHERE WHAT IT READS IS OF BULK AT MOST 1048576: true; the input reads as it did. -/
def mediaRawUptoRow : OpenClaim := { program := "ytbdhjlanfigdgaa", sum := "8b7ee072d6ae4688145df4c1d676afd962e598264eb109b423a2bdcb04303fd7", func := "zoneappend/zoneappendlaw06.MediaRaw", spec := "mediaRaw", unfollowed := true, recurses := true, apart := false, narrowed := true }
def MediaRawUptoSaid : Prop := mediaRawUptoRow.holds Try.pinned (OpenSpec.upto mediaRawSpec)

/-- 'zoneappendlaw06.MediaMade', WHERE WHAT IT READS IS OF BULK AT MOST 1048576: true; the input reads as it did. -/
def mediaMadeUptoRow : OpenClaim := { program := "ytbdhjlanfigdgaa", sum := "8b7ee072d6ae4688145df4c1d676afd962e598264eb109b423a2bdcb04303fd7", func := "zoneappend/zoneappendlaw06.MediaMade", spec := "mediaMade", unfollowed := true, recurses := true, apart := false, narrowed := true }
def MediaMadeUptoSaid : Prop := mediaMadeUptoRow.holds Try.pinned (OpenSpec.upto mediaMadeSpec)

/-- 'zoneappendlaw06.MediaKeeps', WHERE WHAT IT READS IS OF BULK AT MOST 1048576: true; the input reads as it did. -/
def mediaKeepsUptoRow : OpenClaim := { program := "ytbdhjlanfigdgaa", sum := "8b7ee072d6ae4688145df4c1d676afd962e598264eb109b423a2bdcb04303fd7", func := "zoneappend/zoneappendlaw06.MediaKeeps", spec := "mediaKeeps", unfollowed := true, recurses := true, apart := false, narrowed := true }
def MediaKeepsUptoSaid : Prop := mediaKeepsUptoRow.holds Try.pinned (OpenSpec.upto mediaKeepsSpec)

/-- 'zoneappendlaw06.MediaMore', WHERE WHAT IT READS IS OF BULK AT MOST 1048576: true; the input reads as it did. -/
def mediaMoreUptoRow : OpenClaim := { program := "ytbdhjlanfigdgaa", sum := "8b7ee072d6ae4688145df4c1d676afd962e598264eb109b423a2bdcb04303fd7", func := "zoneappend/zoneappendlaw06.MediaMore", spec := "mediaMore", unfollowed := true, recurses := true, apart := false, narrowed := true }
def MediaMoreUptoSaid : Prop := mediaMoreUptoRow.holds Try.pinned (OpenSpec.upto mediaMoreSpec)

/-- 'zoneappendlaw05.ZnsNew', WHERE WHAT IT READS IS OF BULK AT MOST 1048576: true; the input reads as it did. -/
def znsNewUptoRow : OpenClaim := { program := "ytbdhjlanfigdgaa", sum := "8b7ee072d6ae4688145df4c1d676afd962e598264eb109b423a2bdcb04303fd7", func := "zoneappend/zoneappendlaw05.ZnsNew", spec := "znsNew", apart := false, narrowed := true }
def ZnsNewUptoSaid : Prop := znsNewUptoRow.holds Try.pinned (OpenSpec.upto znsNewSpec)

/-- 'zoneappendlaw05.ZnsFills', WHERE WHAT IT READS IS OF BULK AT MOST 1048576: true; the input reads as it did. -/
def znsFillsUptoRow : OpenClaim := { program := "ytbdhjlanfigdgaa", sum := "8b7ee072d6ae4688145df4c1d676afd962e598264eb109b423a2bdcb04303fd7", func := "zoneappend/zoneappendlaw05.ZnsFills", spec := "znsFills", apart := false, narrowed := true }
def ZnsFillsUptoSaid : Prop := znsFillsUptoRow.holds Try.pinned (OpenSpec.upto znsFillsSpec)

/-- 'zoneappendlaw05.ZnsRaw', WHERE WHAT IT READS IS OF BULK AT MOST 1048576: true; the input reads as it did. -/
def znsRawUptoRow : OpenClaim := { program := "ytbdhjlanfigdgaa", sum := "8b7ee072d6ae4688145df4c1d676afd962e598264eb109b423a2bdcb04303fd7", func := "zoneappend/zoneappendlaw05.ZnsRaw", spec := "znsRaw", apart := false, narrowed := true }
def ZnsRawUptoSaid : Prop := znsRawUptoRow.holds Try.pinned (OpenSpec.upto znsRawSpec)

/-- 'zoneappendlaw05.ZnsMade', WHERE WHAT IT READS IS OF BULK AT MOST 1048576: true; the input reads as it did. -/
def znsMadeUptoRow : OpenClaim := { program := "ytbdhjlanfigdgaa", sum := "8b7ee072d6ae4688145df4c1d676afd962e598264eb109b423a2bdcb04303fd7", func := "zoneappend/zoneappendlaw05.ZnsMade", spec := "znsMade", apart := false, narrowed := true }
def ZnsMadeUptoSaid : Prop := znsMadeUptoRow.holds Try.pinned (OpenSpec.upto znsMadeSpec)

/-- 'zoneappendlaw05.ZnsStays', WHERE WHAT IT READS IS OF BULK AT MOST 1048576: true; the input reads as it did. -/
def znsStaysUptoRow : OpenClaim := { program := "ytbdhjlanfigdgaa", sum := "8b7ee072d6ae4688145df4c1d676afd962e598264eb109b423a2bdcb04303fd7", func := "zoneappend/zoneappendlaw05.ZnsStays", spec := "znsStays", apart := false, narrowed := true }
def ZnsStaysUptoSaid : Prop := znsStaysUptoRow.holds Try.pinned (OpenSpec.upto znsStaysSpec)

/-- 'zoneappendlaw05.ZnsLimits', WHERE WHAT IT READS IS OF BULK AT MOST 1048576: true; the input reads as it did. -/
def znsLimitsUptoRow : OpenClaim := { program := "ytbdhjlanfigdgaa", sum := "8b7ee072d6ae4688145df4c1d676afd962e598264eb109b423a2bdcb04303fd7", func := "zoneappend/zoneappendlaw05.ZnsLimits", spec := "znsLimits", apart := false, narrowed := true }
def ZnsLimitsUptoSaid : Prop := znsLimitsUptoRow.holds Try.pinned (OpenSpec.upto znsLimitsSpec)

end Rows
end Go.Proofs.Ytbdhjlanfigdgaa
