/-
  No cell of these rows narrows 'for every input' (looked for: loops, veiled, ifaces, maps, wideKeys, modest, calm, conditions, laid).
  DERIVED. THE GIVEN ROWS OF THIS SEAT. 11 by the template 'for every input the law returns true; each argument reads behind the call as it read before'; 0 by the template 'total and deterministic' (their statements: YtklfkfnckdeifaaTotals.lean).
  GIVEN WITH THE SEED: the statements are not yours to turn. If you find one false, say at which input.
  Laid BY PROGRAM, IN A SANDBOX (cutbox-rows.mjs): the forced cells as the released guide's own fill.sh prints them over the translation 4d478aa726d79321… (all of the seat's roots in one cut). By AI agents, Wed Nov 11 2026. No macro, syntax, notation, axiom, sorry.
-/
import Derived.Test.YtklfkfnckdeifaaChecked
import GoSem.Claim
import GoSem.ClaimJoined
import GoSem.ClaimMapViews
import Derived.JoinedTies
import Derived.KernelRfl
namespace Go.Proofs.Ytklfkfnckdeifaa
/- THE CELL 'sum', in the pinned program and in every row, IS THE sha256 OF THE DUMP (.gsa) THAT YtklfkfnckdeifaaProg.lean LOADS. Nothing in Lean hashes anything: it is a label: what it is worth is what the hold of that sum in a sandbox is worth. -/
noncomputable def Try.pinned : Pinned := { name := "ytklfkfnckdeifaa", sum := "4d478aa726d79321674cd828222331078ed94a0a31564e2e97becebbe736e142", checked := Try.checked }
namespace Rows
def none {H : Type} : Left H := { results := [], args := [] }

/-- 'earshotlaw7.WireSums': WHATEVER THE INPUT: true; the input reads as it did. -/
def wireSumsSpec : ChangeSpec := { name := "wireSums", fn := fun _ => fun
  | [d] => { results := [.lit (.bool true)], args := [d] }
  | _ => none }
def wireSumsRow : OpenClaim := { program := "ytklfkfnckdeifaa", sum := "4d478aa726d79321674cd828222331078ed94a0a31564e2e97becebbe736e142", func := "earshot/earshotlaw7.WireSums", spec := "wireSums", unfollowed := true, recurses := true, apart := false }
def WireSumsSaid : Prop := wireSumsRow.holds Try.pinned (OpenSpec.ofChange wireSumsSpec)

/-- ITS FALSE NEIGHBOUR: 'it returns false'. Refute it at one input. -/
def wireSumsWrong : ChangeSpec := { name := "wireSums", fn := fun _ => fun
  | [d] => { results := [.lit (.bool false)], args := [d] }
  | _ => none }
def WireSumsWrongFalsely : Prop := wireSumsRow.holds Try.pinned (OpenSpec.ofChange wireSumsWrong)

/-- 'earshotlaw7.WireBytes': WHATEVER THE INPUT: true; the input reads as it did. -/
def wireBytesSpec : ChangeSpec := { name := "wireBytes", fn := fun _ => fun
  | [d1, d2] => { results := [.lit (.bool true)], args := [d1, d2] }
  | _ => none }
def wireBytesRow : OpenClaim := { program := "ytklfkfnckdeifaa", sum := "4d478aa726d79321674cd828222331078ed94a0a31564e2e97becebbe736e142", func := "earshot/earshotlaw7.WireBytes", spec := "wireBytes", unfollowed := true, recurses := true, apart := false }
def WireBytesSaid : Prop := wireBytesRow.holds Try.pinned (OpenSpec.ofChange wireBytesSpec)

/-- ITS FALSE NEIGHBOUR: 'it returns false'. Refute it at one input. -/
def wireBytesWrong : ChangeSpec := { name := "wireBytes", fn := fun _ => fun
  | [d1, d2] => { results := [.lit (.bool false)], args := [d1, d2] }
  | _ => none }
def WireBytesWrongFalsely : Prop := wireBytesRow.holds Try.pinned (OpenSpec.ofChange wireBytesWrong)

/-- 'earshotlaw7.WireDecodes': WHATEVER THE INPUT: true; the input reads as it did. -/
def wireDecodesSpec : ChangeSpec := { name := "wireDecodes", fn := fun _ => fun
  | [d1, d2] => { results := [.lit (.bool true)], args := [d1, d2] }
  | _ => none }
def wireDecodesRow : OpenClaim := { program := "ytklfkfnckdeifaa", sum := "4d478aa726d79321674cd828222331078ed94a0a31564e2e97becebbe736e142", func := "earshot/earshotlaw7.WireDecodes", spec := "wireDecodes", unfollowed := true, recurses := true, apart := false }
def WireDecodesSaid : Prop := wireDecodesRow.holds Try.pinned (OpenSpec.ofChange wireDecodesSpec)

/-- ITS FALSE NEIGHBOUR: 'it returns false'. Refute it at one input. -/
def wireDecodesWrong : ChangeSpec := { name := "wireDecodes", fn := fun _ => fun
  | [d1, d2] => { results := [.lit (.bool false)], args := [d1, d2] }
  | _ => none }
def WireDecodesWrongFalsely : Prop := wireDecodesRow.holds Try.pinned (OpenSpec.ofChange wireDecodesWrong)

/-- 'earshotlaw7.WireAsserts': WHATEVER THE INPUT: true; the input reads as it did. -/
def wireAssertsSpec : ChangeSpec := { name := "wireAsserts", fn := fun _ => fun
  | [d1, d2] => { results := [.lit (.bool true)], args := [d1, d2] }
  | _ => none }
def wireAssertsRow : OpenClaim := { program := "ytklfkfnckdeifaa", sum := "4d478aa726d79321674cd828222331078ed94a0a31564e2e97becebbe736e142", func := "earshot/earshotlaw7.WireAsserts", spec := "wireAsserts", unfollowed := true, recurses := true, apart := false }
def WireAssertsSaid : Prop := wireAssertsRow.holds Try.pinned (OpenSpec.ofChange wireAssertsSpec)

/-- ITS FALSE NEIGHBOUR: 'it returns false'. Refute it at one input. -/
def wireAssertsWrong : ChangeSpec := { name := "wireAsserts", fn := fun _ => fun
  | [d1, d2] => { results := [.lit (.bool false)], args := [d1, d2] }
  | _ => none }
def WireAssertsWrongFalsely : Prop := wireAssertsRow.holds Try.pinned (OpenSpec.ofChange wireAssertsWrong)

/-- 'earshotlaw7.WireBack': WHATEVER THE INPUT: true; the input reads as it did. -/
def wireBackSpec : ChangeSpec := { name := "wireBack", fn := fun _ => fun
  | [d1, d2] => { results := [.lit (.bool true)], args := [d1, d2] }
  | _ => none }
def wireBackRow : OpenClaim := { program := "ytklfkfnckdeifaa", sum := "4d478aa726d79321674cd828222331078ed94a0a31564e2e97becebbe736e142", func := "earshot/earshotlaw7.WireBack", spec := "wireBack", unfollowed := true, recurses := true, apart := false }
def WireBackSaid : Prop := wireBackRow.holds Try.pinned (OpenSpec.ofChange wireBackSpec)

/-- ITS FALSE NEIGHBOUR: 'it returns false'. Refute it at one input. -/
def wireBackWrong : ChangeSpec := { name := "wireBack", fn := fun _ => fun
  | [d1, d2] => { results := [.lit (.bool false)], args := [d1, d2] }
  | _ => none }
def WireBackWrongFalsely : Prop := wireBackRow.holds Try.pinned (OpenSpec.ofChange wireBackWrong)

/-- 'earshotlaw7.WireTaken': WHATEVER THE INPUT: true; the input reads as it did. -/
def wireTakenSpec : ChangeSpec := { name := "wireTaken", fn := fun _ => fun
  | [d1, d2, d3] => { results := [.lit (.bool true)], args := [d1, d2, d3] }
  | _ => none }
def wireTakenRow : OpenClaim := { program := "ytklfkfnckdeifaa", sum := "4d478aa726d79321674cd828222331078ed94a0a31564e2e97becebbe736e142", func := "earshot/earshotlaw7.WireTaken", spec := "wireTaken", unfollowed := true, recurses := true, apart := false }
def WireTakenSaid : Prop := wireTakenRow.holds Try.pinned (OpenSpec.ofChange wireTakenSpec)

/-- ITS FALSE NEIGHBOUR: 'it returns false'. Refute it at one input. -/
def wireTakenWrong : ChangeSpec := { name := "wireTaken", fn := fun _ => fun
  | [d1, d2, d3] => { results := [.lit (.bool false)], args := [d1, d2, d3] }
  | _ => none }
def WireTakenWrongFalsely : Prop := wireTakenRow.holds Try.pinned (OpenSpec.ofChange wireTakenWrong)

/-- 'earshotlaw7.WireEnds': WHATEVER THE INPUT: true; the input reads as it did. -/
def wireEndsSpec : ChangeSpec := { name := "wireEnds", fn := fun _ => fun
  | [d1, d2, d3, d4] => { results := [.lit (.bool true)], args := [d1, d2, d3, d4] }
  | _ => none }
def wireEndsRow : OpenClaim := { program := "ytklfkfnckdeifaa", sum := "4d478aa726d79321674cd828222331078ed94a0a31564e2e97becebbe736e142", func := "earshot/earshotlaw7.WireEnds", spec := "wireEnds", unfollowed := true, recurses := true, apart := false }
def WireEndsSaid : Prop := wireEndsRow.holds Try.pinned (OpenSpec.ofChange wireEndsSpec)

/-- ITS FALSE NEIGHBOUR: 'it returns false'. Refute it at one input. -/
def wireEndsWrong : ChangeSpec := { name := "wireEnds", fn := fun _ => fun
  | [d1, d2, d3, d4] => { results := [.lit (.bool false)], args := [d1, d2, d3, d4] }
  | _ => none }
def WireEndsWrongFalsely : Prop := wireEndsRow.holds Try.pinned (OpenSpec.ofChange wireEndsWrong)

/-- 'earshotlaw7.WireTurned': WHATEVER THE INPUT: true; the input reads as it did. -/
def wireTurnedSpec : ChangeSpec := { name := "wireTurned", fn := fun _ => fun
  | [d1, d2, d3, d4] => { results := [.lit (.bool true)], args := [d1, d2, d3, d4] }
  | _ => none }
def wireTurnedRow : OpenClaim := { program := "ytklfkfnckdeifaa", sum := "4d478aa726d79321674cd828222331078ed94a0a31564e2e97becebbe736e142", func := "earshot/earshotlaw7.WireTurned", spec := "wireTurned", unfollowed := true, recurses := true, apart := false }
def WireTurnedSaid : Prop := wireTurnedRow.holds Try.pinned (OpenSpec.ofChange wireTurnedSpec)

/-- ITS FALSE NEIGHBOUR: 'it returns false'. Refute it at one input. -/
def wireTurnedWrong : ChangeSpec := { name := "wireTurned", fn := fun _ => fun
  | [d1, d2, d3, d4] => { results := [.lit (.bool false)], args := [d1, d2, d3, d4] }
  | _ => none }
def WireTurnedWrongFalsely : Prop := wireTurnedRow.holds Try.pinned (OpenSpec.ofChange wireTurnedWrong)

/-- 'earshotlaw7.WirePanics': WHATEVER THE INPUT: true; the input reads as it did. -/
def wirePanicsSpec : ChangeSpec := { name := "wirePanics", fn := fun _ => fun
  | [d1, d2] => { results := [.lit (.bool true)], args := [d1, d2] }
  | _ => none }
def wirePanicsRow : OpenClaim := { program := "ytklfkfnckdeifaa", sum := "4d478aa726d79321674cd828222331078ed94a0a31564e2e97becebbe736e142", func := "earshot/earshotlaw7.WirePanics", spec := "wirePanics", unfollowed := true, recurses := true, apart := false }
def WirePanicsSaid : Prop := wirePanicsRow.holds Try.pinned (OpenSpec.ofChange wirePanicsSpec)

/-- ITS FALSE NEIGHBOUR: 'it returns false'. Refute it at one input. -/
def wirePanicsWrong : ChangeSpec := { name := "wirePanics", fn := fun _ => fun
  | [d1, d2] => { results := [.lit (.bool false)], args := [d1, d2] }
  | _ => none }
def WirePanicsWrongFalsely : Prop := wirePanicsRow.holds Try.pinned (OpenSpec.ofChange wirePanicsWrong)

/-- 'earshotlaw7.WireTold': WHATEVER THE INPUT: true; the input reads as it did. -/
def wireToldSpec : ChangeSpec := { name := "wireTold", fn := fun _ => fun
  | [d1, d2] => { results := [.lit (.bool true)], args := [d1, d2] }
  | _ => none }
def wireToldRow : OpenClaim := { program := "ytklfkfnckdeifaa", sum := "4d478aa726d79321674cd828222331078ed94a0a31564e2e97becebbe736e142", func := "earshot/earshotlaw7.WireTold", spec := "wireTold", unfollowed := true, recurses := true, apart := false }
def WireToldSaid : Prop := wireToldRow.holds Try.pinned (OpenSpec.ofChange wireToldSpec)

/-- ITS FALSE NEIGHBOUR: 'it returns false'. Refute it at one input. -/
def wireToldWrong : ChangeSpec := { name := "wireTold", fn := fun _ => fun
  | [d1, d2] => { results := [.lit (.bool false)], args := [d1, d2] }
  | _ => none }
def WireToldWrongFalsely : Prop := wireToldRow.holds Try.pinned (OpenSpec.ofChange wireToldWrong)

/-- 'earshotlaw7.WirePackets': WHATEVER THE INPUT: true; the input reads as it did. -/
def wirePacketsSpec : ChangeSpec := { name := "wirePackets", fn := fun _ => fun
  | [d1, d2] => { results := [.lit (.bool true)], args := [d1, d2] }
  | _ => none }
def wirePacketsRow : OpenClaim := { program := "ytklfkfnckdeifaa", sum := "4d478aa726d79321674cd828222331078ed94a0a31564e2e97becebbe736e142", func := "earshot/earshotlaw7.WirePackets", spec := "wirePackets", unfollowed := true, recurses := true, apart := false }
def WirePacketsSaid : Prop := wirePacketsRow.holds Try.pinned (OpenSpec.ofChange wirePacketsSpec)

/-- ITS FALSE NEIGHBOUR: 'it returns false'. Refute it at one input. -/
def wirePacketsWrong : ChangeSpec := { name := "wirePackets", fn := fun _ => fun
  | [d1, d2] => { results := [.lit (.bool false)], args := [d1, d2] }
  | _ => none }
def WirePacketsWrongFalsely : Prop := wirePacketsRow.holds Try.pinned (OpenSpec.ofChange wirePacketsWrong)

/- THE SECOND FORM. 'bulk': how many values and letters a reading holds, each counted each time it is reached (what is shared counts as often as it is met; a slice's spare places count too). A statement '..UptoSaid' is the law's where the arguments, and the package variables that the reading takes, are together of bulk at most 1048576: NARROWER than '..Said'. Prove '..Said' where nothing that the law and all that it calls make is longer than what came in: it says more and counts as full. Else prove '..UptoSaid'. A law counts once. -/
mutual
def uptoBulk {H : Type} : DataW H → Nat
  | .lit (.string bytes) => bytes.length + 1
  | .lit _ => 1
  | .nil => 1
  | .ptr d => uptoBulk d + 1
  | .slice elems spare => uptoBulkAll elems + uptoBulkAll spare + 1
  | .agg parts => uptoBulkAll parts + 1
  | .iface _ d => uptoBulk d + 1
  | .map entries => uptoBulkEntries entries + 1
  | .held _ => 1
def uptoBulkAll {H : Type} : List (DataW H) → Nat
  | [] => 0
  | d :: r => uptoBulk d + uptoBulkAll r
def uptoBulkEntries {H : Type} : List (Lit × DataW H) → Nat
  | [] => 0
  | x :: r => uptoBulkEntry x + uptoBulkEntries r
def uptoBulkEntry {H : Type} : Lit × DataW H → Nat
  | (.string bytes, d) => bytes.length + uptoBulk d + 1
  | (_, d) => uptoBulk d + 1
 end
def uptoSmall : (H : Type) → List (DataW H) → Bool := fun _ ds => decide (uptoBulkAll ds ≤ 1048576)
def OpenSpec.upto (s : _root_.Go.ChangeSpec) : _root_.Go.OpenSpec := { _root_.Go.OpenSpec.ofChange s with cond := some uptoSmall }

/-- 'earshotlaw7.WireSums', WHERE WHAT IT READS IS OF BULK AT MOST 1048576: true; the input reads as it did. -/
def wireSumsUptoRow : OpenClaim := { program := "ytklfkfnckdeifaa", sum := "4d478aa726d79321674cd828222331078ed94a0a31564e2e97becebbe736e142", func := "earshot/earshotlaw7.WireSums", spec := "wireSums", unfollowed := true, recurses := true, apart := false, narrowed := true }
def WireSumsUptoSaid : Prop := wireSumsUptoRow.holds Try.pinned (OpenSpec.upto wireSumsSpec)

/-- 'earshotlaw7.WireBytes', WHERE WHAT IT READS IS OF BULK AT MOST 1048576: true; the input reads as it did. -/
def wireBytesUptoRow : OpenClaim := { program := "ytklfkfnckdeifaa", sum := "4d478aa726d79321674cd828222331078ed94a0a31564e2e97becebbe736e142", func := "earshot/earshotlaw7.WireBytes", spec := "wireBytes", unfollowed := true, recurses := true, apart := false, narrowed := true }
def WireBytesUptoSaid : Prop := wireBytesUptoRow.holds Try.pinned (OpenSpec.upto wireBytesSpec)

/-- 'earshotlaw7.WireDecodes', WHERE WHAT IT READS IS OF BULK AT MOST 1048576: true; the input reads as it did. -/
def wireDecodesUptoRow : OpenClaim := { program := "ytklfkfnckdeifaa", sum := "4d478aa726d79321674cd828222331078ed94a0a31564e2e97becebbe736e142", func := "earshot/earshotlaw7.WireDecodes", spec := "wireDecodes", unfollowed := true, recurses := true, apart := false, narrowed := true }
def WireDecodesUptoSaid : Prop := wireDecodesUptoRow.holds Try.pinned (OpenSpec.upto wireDecodesSpec)

/-- 'earshotlaw7.WireAsserts', WHERE WHAT IT READS IS OF BULK AT MOST 1048576: true; the input reads as it did. -/
def wireAssertsUptoRow : OpenClaim := { program := "ytklfkfnckdeifaa", sum := "4d478aa726d79321674cd828222331078ed94a0a31564e2e97becebbe736e142", func := "earshot/earshotlaw7.WireAsserts", spec := "wireAsserts", unfollowed := true, recurses := true, apart := false, narrowed := true }
def WireAssertsUptoSaid : Prop := wireAssertsUptoRow.holds Try.pinned (OpenSpec.upto wireAssertsSpec)

/-- 'earshotlaw7.WireBack', WHERE WHAT IT READS IS OF BULK AT MOST 1048576: true; the input reads as it did. -/
def wireBackUptoRow : OpenClaim := { program := "ytklfkfnckdeifaa", sum := "4d478aa726d79321674cd828222331078ed94a0a31564e2e97becebbe736e142", func := "earshot/earshotlaw7.WireBack", spec := "wireBack", unfollowed := true, recurses := true, apart := false, narrowed := true }
def WireBackUptoSaid : Prop := wireBackUptoRow.holds Try.pinned (OpenSpec.upto wireBackSpec)

/-- 'earshotlaw7.WireTaken', WHERE WHAT IT READS IS OF BULK AT MOST 1048576: true; the input reads as it did. -/
def wireTakenUptoRow : OpenClaim := { program := "ytklfkfnckdeifaa", sum := "4d478aa726d79321674cd828222331078ed94a0a31564e2e97becebbe736e142", func := "earshot/earshotlaw7.WireTaken", spec := "wireTaken", unfollowed := true, recurses := true, apart := false, narrowed := true }
def WireTakenUptoSaid : Prop := wireTakenUptoRow.holds Try.pinned (OpenSpec.upto wireTakenSpec)

/-- 'earshotlaw7.WireEnds', WHERE WHAT IT READS IS OF BULK AT MOST 1048576: true; the input reads as it did. -/
def wireEndsUptoRow : OpenClaim := { program := "ytklfkfnckdeifaa", sum := "4d478aa726d79321674cd828222331078ed94a0a31564e2e97becebbe736e142", func := "earshot/earshotlaw7.WireEnds", spec := "wireEnds", unfollowed := true, recurses := true, apart := false, narrowed := true }
def WireEndsUptoSaid : Prop := wireEndsUptoRow.holds Try.pinned (OpenSpec.upto wireEndsSpec)

/-- 'earshotlaw7.WireTurned', WHERE WHAT IT READS IS OF BULK AT MOST 1048576: true; the input reads as it did. -/
def wireTurnedUptoRow : OpenClaim := { program := "ytklfkfnckdeifaa", sum := "4d478aa726d79321674cd828222331078ed94a0a31564e2e97becebbe736e142", func := "earshot/earshotlaw7.WireTurned", spec := "wireTurned", unfollowed := true, recurses := true, apart := false, narrowed := true }
def WireTurnedUptoSaid : Prop := wireTurnedUptoRow.holds Try.pinned (OpenSpec.upto wireTurnedSpec)

/-- 'earshotlaw7.WirePanics', WHERE WHAT IT READS IS OF BULK AT MOST 1048576: true; the input reads as it did. -/
def wirePanicsUptoRow : OpenClaim := { program := "ytklfkfnckdeifaa", sum := "4d478aa726d79321674cd828222331078ed94a0a31564e2e97becebbe736e142", func := "earshot/earshotlaw7.WirePanics", spec := "wirePanics", unfollowed := true, recurses := true, apart := false, narrowed := true }
def WirePanicsUptoSaid : Prop := wirePanicsUptoRow.holds Try.pinned (OpenSpec.upto wirePanicsSpec)

/-- 'earshotlaw7.WireTold', WHERE WHAT IT READS IS OF BULK AT MOST 1048576: true; the input reads as it did. -/
def wireToldUptoRow : OpenClaim := { program := "ytklfkfnckdeifaa", sum := "4d478aa726d79321674cd828222331078ed94a0a31564e2e97becebbe736e142", func := "earshot/earshotlaw7.WireTold", spec := "wireTold", unfollowed := true, recurses := true, apart := false, narrowed := true }
def WireToldUptoSaid : Prop := wireToldUptoRow.holds Try.pinned (OpenSpec.upto wireToldSpec)

/-- 'earshotlaw7.WirePackets', WHERE WHAT IT READS IS OF BULK AT MOST 1048576: true; the input reads as it did. -/
def wirePacketsUptoRow : OpenClaim := { program := "ytklfkfnckdeifaa", sum := "4d478aa726d79321674cd828222331078ed94a0a31564e2e97becebbe736e142", func := "earshot/earshotlaw7.WirePackets", spec := "wirePackets", unfollowed := true, recurses := true, apart := false, narrowed := true }
def WirePacketsUptoSaid : Prop := wirePacketsUptoRow.holds Try.pinned (OpenSpec.upto wirePacketsSpec)

end Rows
end Go.Proofs.Ytklfkfnckdeifaa
