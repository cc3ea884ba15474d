/-
  No cell of these rows narrows 'for every input' (looked for: loops, veiled, ifaces, maps, wideKeys, modest, calm, conditions, laid).
  DERIVED. THE GIVEN ROWS OF THIS SEAT. 8 by the template 'for every input the law returns true; each argument reads behind the call as it read before'; 0 by the template 'total and deterministic' (their statements: YtjopmnfmifbmbaaTotals.lean).
  GIVEN WITH THE SEED: the statements are not yours to turn. If you find one false, say at which input.
  Laid BY PROGRAM, IN A SANDBOX (cutbox-rows.mjs): the forced cells as the released guide's own fill.sh prints them over the translation 7d2fddb55e663617… (all of the seat's roots in one cut). By AI agents, Wed Nov 11 2026. No macro, syntax, notation, axiom, sorry.
-/
import Derived.Test.YtjopmnfmifbmbaaChecked
import GoSem.Claim
import GoSem.ClaimJoined
import GoSem.ClaimMapViews
import Derived.JoinedTies
import Derived.KernelRfl
namespace Go.Proofs.Ytjopmnfmifbmbaa
/- THE CELL 'sum', in the pinned program and in every row, IS THE sha256 OF THE DUMP (.gsa) THAT YtjopmnfmifbmbaaProg.lean LOADS. Nothing in Lean hashes anything: it is a label: what it is worth is what the hold of that sum in a sandbox is worth. -/
noncomputable def Try.pinned : Pinned := { name := "ytjopmnfmifbmbaa", sum := "7d2fddb55e66361705de405f0325faba42c107ad87f4cbc0646a88d443ff61f9", checked := Try.checked }
namespace Rows
def none {H : Type} : Left H := { results := [], args := [] }

/-- 'earshotlaw13.TallyAgain': WHATEVER THE INPUT: true; the input reads as it did. -/
def tallyAgainSpec : ChangeSpec := { name := "tallyAgain", fn := fun _ => fun
  | [d1, d2, d3, d4, d5, d6] => { results := [.lit (.bool true)], args := [d1, d2, d3, d4, d5, d6] }
  | _ => none }
def tallyAgainRow : OpenClaim := { program := "ytjopmnfmifbmbaa", sum := "7d2fddb55e66361705de405f0325faba42c107ad87f4cbc0646a88d443ff61f9", func := "earshot/earshotlaw13.TallyAgain", spec := "tallyAgain", unfollowed := true, recurses := true, apart := false }
def TallyAgainSaid : Prop := tallyAgainRow.holds Try.pinned (OpenSpec.ofChange tallyAgainSpec)

/-- ITS FALSE NEIGHBOUR: 'it returns false'. Refute it at one input. -/
def tallyAgainWrong : ChangeSpec := { name := "tallyAgain", fn := fun _ => fun
  | [d1, d2, d3, d4, d5, d6] => { results := [.lit (.bool false)], args := [d1, d2, d3, d4, d5, d6] }
  | _ => none }
def TallyAgainWrongFalsely : Prop := tallyAgainRow.holds Try.pinned (OpenSpec.ofChange tallyAgainWrong)

/-- 'earshotlaw13.TallyHeld': WHATEVER THE INPUT: true; the input reads as it did. -/
def tallyHeldSpec : ChangeSpec := { name := "tallyHeld", fn := fun _ => fun
  | [d1, d2, d3, d4, d5, d6] => { results := [.lit (.bool true)], args := [d1, d2, d3, d4, d5, d6] }
  | _ => none }
def tallyHeldRow : OpenClaim := { program := "ytjopmnfmifbmbaa", sum := "7d2fddb55e66361705de405f0325faba42c107ad87f4cbc0646a88d443ff61f9", func := "earshot/earshotlaw13.TallyHeld", spec := "tallyHeld", unfollowed := true, recurses := true, apart := false }
def TallyHeldSaid : Prop := tallyHeldRow.holds Try.pinned (OpenSpec.ofChange tallyHeldSpec)

/-- ITS FALSE NEIGHBOUR: 'it returns false'. Refute it at one input. -/
def tallyHeldWrong : ChangeSpec := { name := "tallyHeld", fn := fun _ => fun
  | [d1, d2, d3, d4, d5, d6] => { results := [.lit (.bool false)], args := [d1, d2, d3, d4, d5, d6] }
  | _ => none }
def TallyHeldWrongFalsely : Prop := tallyHeldRow.holds Try.pinned (OpenSpec.ofChange tallyHeldWrong)

/-- 'earshotlaw13.TallyNone': WHATEVER THE INPUT: true; the input reads as it did. -/
def tallyNoneSpec : ChangeSpec := { name := "tallyNone", fn := fun _ => fun
  | [d1, d2, d3] => { results := [.lit (.bool true)], args := [d1, d2, d3] }
  | _ => none }
def tallyNoneRow : OpenClaim := { program := "ytjopmnfmifbmbaa", sum := "7d2fddb55e66361705de405f0325faba42c107ad87f4cbc0646a88d443ff61f9", func := "earshot/earshotlaw13.TallyNone", spec := "tallyNone", unfollowed := true, recurses := true, apart := false }
def TallyNoneSaid : Prop := tallyNoneRow.holds Try.pinned (OpenSpec.ofChange tallyNoneSpec)

/-- ITS FALSE NEIGHBOUR: 'it returns false'. Refute it at one input. -/
def tallyNoneWrong : ChangeSpec := { name := "tallyNone", fn := fun _ => fun
  | [d1, d2, d3] => { results := [.lit (.bool false)], args := [d1, d2, d3] }
  | _ => none }
def TallyNoneWrongFalsely : Prop := tallyNoneRow.holds Try.pinned (OpenSpec.ofChange tallyNoneWrong)

/-- 'earshotlaw13.TallyNews': WHATEVER THE INPUT: true; the input reads as it did. -/
def tallyNewsSpec : ChangeSpec := { name := "tallyNews", fn := fun _ => fun
  | [d1, d2, d3, d4, d5] => { results := [.lit (.bool true)], args := [d1, d2, d3, d4, d5] }
  | _ => none }
def tallyNewsRow : OpenClaim := { program := "ytjopmnfmifbmbaa", sum := "7d2fddb55e66361705de405f0325faba42c107ad87f4cbc0646a88d443ff61f9", func := "earshot/earshotlaw13.TallyNews", spec := "tallyNews", unfollowed := true, recurses := true, apart := false }
def TallyNewsSaid : Prop := tallyNewsRow.holds Try.pinned (OpenSpec.ofChange tallyNewsSpec)

/-- ITS FALSE NEIGHBOUR: 'it returns false'. Refute it at one input. -/
def tallyNewsWrong : ChangeSpec := { name := "tallyNews", fn := fun _ => fun
  | [d1, d2, d3, d4, d5] => { results := [.lit (.bool false)], args := [d1, d2, d3, d4, d5] }
  | _ => none }
def TallyNewsWrongFalsely : Prop := tallyNewsRow.holds Try.pinned (OpenSpec.ofChange tallyNewsWrong)

/-- 'earshotlaw13.TallyPlays': WHATEVER THE INPUT: true; the input reads as it did. -/
def tallyPlaysSpec : ChangeSpec := { name := "tallyPlays", fn := fun _ => fun
  | [d1, d2, d3, d4, d5, d6] => { results := [.lit (.bool true)], args := [d1, d2, d3, d4, d5, d6] }
  | _ => none }
def tallyPlaysRow : OpenClaim := { program := "ytjopmnfmifbmbaa", sum := "7d2fddb55e66361705de405f0325faba42c107ad87f4cbc0646a88d443ff61f9", func := "earshot/earshotlaw13.TallyPlays", spec := "tallyPlays", unfollowed := true, recurses := true, apart := false }
def TallyPlaysSaid : Prop := tallyPlaysRow.holds Try.pinned (OpenSpec.ofChange tallyPlaysSpec)

/-- ITS FALSE NEIGHBOUR: 'it returns false'. Refute it at one input. -/
def tallyPlaysWrong : ChangeSpec := { name := "tallyPlays", fn := fun _ => fun
  | [d1, d2, d3, d4, d5, d6] => { results := [.lit (.bool false)], args := [d1, d2, d3, d4, d5, d6] }
  | _ => none }
def TallyPlaysWrongFalsely : Prop := tallyPlaysRow.holds Try.pinned (OpenSpec.ofChange tallyPlaysWrong)

/-- 'earshotlaw13.TallyAll': WHATEVER THE INPUT: true; the input reads as it did. -/
def tallyAllSpec : ChangeSpec := { name := "tallyAll", fn := fun _ => fun
  | [d1, d2, d3, d4, d5, d6] => { results := [.lit (.bool true)], args := [d1, d2, d3, d4, d5, d6] }
  | _ => none }
def tallyAllRow : OpenClaim := { program := "ytjopmnfmifbmbaa", sum := "7d2fddb55e66361705de405f0325faba42c107ad87f4cbc0646a88d443ff61f9", func := "earshot/earshotlaw13.TallyAll", spec := "tallyAll", unfollowed := true, recurses := true, apart := false }
def TallyAllSaid : Prop := tallyAllRow.holds Try.pinned (OpenSpec.ofChange tallyAllSpec)

/-- ITS FALSE NEIGHBOUR: 'it returns false'. Refute it at one input. -/
def tallyAllWrong : ChangeSpec := { name := "tallyAll", fn := fun _ => fun
  | [d1, d2, d3, d4, d5, d6] => { results := [.lit (.bool false)], args := [d1, d2, d3, d4, d5, d6] }
  | _ => none }
def TallyAllWrongFalsely : Prop := tallyAllRow.holds Try.pinned (OpenSpec.ofChange tallyAllWrong)

/-- 'earshotlaw13.TallyNamed': WHATEVER THE INPUT: true; the input reads as it did. -/
def tallyNamedSpec : ChangeSpec := { name := "tallyNamed", fn := fun _ => fun
  | [d1, d2, d3, d4, d5] => { results := [.lit (.bool true)], args := [d1, d2, d3, d4, d5] }
  | _ => none }
def tallyNamedRow : OpenClaim := { program := "ytjopmnfmifbmbaa", sum := "7d2fddb55e66361705de405f0325faba42c107ad87f4cbc0646a88d443ff61f9", func := "earshot/earshotlaw13.TallyNamed", spec := "tallyNamed", unfollowed := true, recurses := true, apart := false }
def TallyNamedSaid : Prop := tallyNamedRow.holds Try.pinned (OpenSpec.ofChange tallyNamedSpec)

/-- ITS FALSE NEIGHBOUR: 'it returns false'. Refute it at one input. -/
def tallyNamedWrong : ChangeSpec := { name := "tallyNamed", fn := fun _ => fun
  | [d1, d2, d3, d4, d5] => { results := [.lit (.bool false)], args := [d1, d2, d3, d4, d5] }
  | _ => none }
def TallyNamedWrongFalsely : Prop := tallyNamedRow.holds Try.pinned (OpenSpec.ofChange tallyNamedWrong)

/-- 'earshotlaw13.TallyCut': WHATEVER THE INPUT: true; the input reads as it did. -/
def tallyCutSpec : ChangeSpec := { name := "tallyCut", fn := fun _ => fun
  | [d1, d2, d3, d4, d5, d6] => { results := [.lit (.bool true)], args := [d1, d2, d3, d4, d5, d6] }
  | _ => none }
def tallyCutRow : OpenClaim := { program := "ytjopmnfmifbmbaa", sum := "7d2fddb55e66361705de405f0325faba42c107ad87f4cbc0646a88d443ff61f9", func := "earshot/earshotlaw13.TallyCut", spec := "tallyCut", unfollowed := true, recurses := true, apart := false }
def TallyCutSaid : Prop := tallyCutRow.holds Try.pinned (OpenSpec.ofChange tallyCutSpec)

/-- ITS FALSE NEIGHBOUR: 'it returns false'. Refute it at one input. -/
def tallyCutWrong : ChangeSpec := { name := "tallyCut", fn := fun _ => fun
  | [d1, d2, d3, d4, d5, d6] => { results := [.lit (.bool false)], args := [d1, d2, d3, d4, d5, d6] }
  | _ => none }
def TallyCutWrongFalsely : Prop := tallyCutRow.holds Try.pinned (OpenSpec.ofChange tallyCutWrong)

/- THE SECOND FORM. 'bulk': how many values and letters a reading holds, each counted each time it is reached (what is shared counts as often as it is met; a slice's spare places count too). A statement '..UptoSaid' is the law's where the arguments, and the package variables that the reading takes, are together of bulk at most 1048576: NARROWER than '..Said'. Prove '..Said' where nothing that the law and all that it calls make is longer than what came in: it says more and counts as full. Else prove '..UptoSaid'. A law counts once. -/
mutual
def uptoBulk {H : Type} : DataW H → Nat
  | .lit (.string bytes) => bytes.length + 1
  | .lit _ => 1
  | .nil => 1
  | .ptr d => uptoBulk d + 1
  | .slice elems spare => uptoBulkAll elems + uptoBulkAll spare + 1
  | .agg parts => uptoBulkAll parts + 1
  | .iface _ d => uptoBulk d + 1
  | .map entries => uptoBulkEntries entries + 1
  | .held _ => 1
def uptoBulkAll {H : Type} : List (DataW H) → Nat
  | [] => 0
  | d :: r => uptoBulk d + uptoBulkAll r
def uptoBulkEntries {H : Type} : List (Lit × DataW H) → Nat
  | [] => 0
  | x :: r => uptoBulkEntry x + uptoBulkEntries r
def uptoBulkEntry {H : Type} : Lit × DataW H → Nat
  | (.string bytes, d) => bytes.length + uptoBulk d + 1
  | (_, d) => uptoBulk d + 1
 end
def uptoSmall : (H : Type) → List (DataW H) → Bool := fun _ ds => decide (uptoBulkAll ds ≤ 1048576)
def OpenSpec.upto (s : _root_.Go.ChangeSpec) : _root_.Go.OpenSpec := { _root_.Go.OpenSpec.ofChange s with cond := some uptoSmall }

/-- 'earshotlaw13.TallyAgain', WHERE WHAT IT READS IS OF BULK AT MOST 1048576: true; the input reads as it did. -/
def tallyAgainUptoRow : OpenClaim := { program := "ytjopmnfmifbmbaa", sum := "7d2fddb55e66361705de405f0325faba42c107ad87f4cbc0646a88d443ff61f9", func := "earshot/earshotlaw13.TallyAgain", spec := "tallyAgain", unfollowed := true, recurses := true, apart := false, narrowed := true }
def TallyAgainUptoSaid : Prop := tallyAgainUptoRow.holds Try.pinned (OpenSpec.upto tallyAgainSpec)

/-- 'earshotlaw13.TallyHeld', WHERE WHAT IT READS IS OF BULK AT MOST 1048576: true; the input reads as it did. -/
def tallyHeldUptoRow : OpenClaim := { program := "ytjopmnfmifbmbaa", sum := "7d2fddb55e66361705de405f0325faba42c107ad87f4cbc0646a88d443ff61f9", func := "earshot/earshotlaw13.TallyHeld", spec := "tallyHeld", unfollowed := true, recurses := true, apart := false, narrowed := true }
def TallyHeldUptoSaid : Prop := tallyHeldUptoRow.holds Try.pinned (OpenSpec.upto tallyHeldSpec)

/-- 'earshotlaw13.TallyNone', WHERE WHAT IT READS IS OF BULK AT MOST 1048576: true; the input reads as it did. -/
def tallyNoneUptoRow : OpenClaim := { program := "ytjopmnfmifbmbaa", sum := "7d2fddb55e66361705de405f0325faba42c107ad87f4cbc0646a88d443ff61f9", func := "earshot/earshotlaw13.TallyNone", spec := "tallyNone", unfollowed := true, recurses := true, apart := false, narrowed := true }
def TallyNoneUptoSaid : Prop := tallyNoneUptoRow.holds Try.pinned (OpenSpec.upto tallyNoneSpec)

/-- 'earshotlaw13.TallyNews', WHERE WHAT IT READS IS OF BULK AT MOST 1048576: true; the input reads as it did. -/
def tallyNewsUptoRow : OpenClaim := { program := "ytjopmnfmifbmbaa", sum := "7d2fddb55e66361705de405f0325faba42c107ad87f4cbc0646a88d443ff61f9", func := "earshot/earshotlaw13.TallyNews", spec := "tallyNews", unfollowed := true, recurses := true, apart := false, narrowed := true }
def TallyNewsUptoSaid : Prop := tallyNewsUptoRow.holds Try.pinned (OpenSpec.upto tallyNewsSpec)

/-- 'earshotlaw13.TallyPlays', WHERE WHAT IT READS IS OF BULK AT MOST 1048576: true; the input reads as it did. -/
def tallyPlaysUptoRow : OpenClaim := { program := "ytjopmnfmifbmbaa", sum := "7d2fddb55e66361705de405f0325faba42c107ad87f4cbc0646a88d443ff61f9", func := "earshot/earshotlaw13.TallyPlays", spec := "tallyPlays", unfollowed := true, recurses := true, apart := false, narrowed := true }
def TallyPlaysUptoSaid : Prop := tallyPlaysUptoRow.holds Try.pinned (OpenSpec.upto tallyPlaysSpec)

/-- 'earshotlaw13.TallyAll', WHERE WHAT IT READS IS OF BULK AT MOST 1048576: true; the input reads as it did. -/
def tallyAllUptoRow : OpenClaim := { program := "ytjopmnfmifbmbaa", sum := "7d2fddb55e66361705de405f0325faba42c107ad87f4cbc0646a88d443ff61f9", func := "earshot/earshotlaw13.TallyAll", spec := "tallyAll", unfollowed := true, recurses := true, apart := false, narrowed := true }
def TallyAllUptoSaid : Prop := tallyAllUptoRow.holds Try.pinned (OpenSpec.upto tallyAllSpec)

/-- 'earshotlaw13.TallyNamed', WHERE WHAT IT READS IS OF BULK AT MOST 1048576: true; the input reads as it did. -/
def tallyNamedUptoRow : OpenClaim := { program := "ytjopmnfmifbmbaa", sum := "7d2fddb55e66361705de405f0325faba42c107ad87f4cbc0646a88d443ff61f9", func := "earshot/earshotlaw13.TallyNamed", spec := "tallyNamed", unfollowed := true, recurses := true, apart := false, narrowed := true }
def TallyNamedUptoSaid : Prop := tallyNamedUptoRow.holds Try.pinned (OpenSpec.upto tallyNamedSpec)

/-- 'earshotlaw13.TallyCut', WHERE WHAT IT READS IS OF BULK AT MOST 1048576: true; the input reads as it did. -/
def tallyCutUptoRow : OpenClaim := { program := "ytjopmnfmifbmbaa", sum := "7d2fddb55e66361705de405f0325faba42c107ad87f4cbc0646a88d443ff61f9", func := "earshot/earshotlaw13.TallyCut", spec := "tallyCut", unfollowed := true, recurses := true, apart := false, narrowed := true }
def TallyCutUptoSaid : Prop := tallyCutUptoRow.holds Try.pinned (OpenSpec.upto tallyCutSpec)

end Rows
end Go.Proofs.Ytjopmnfmifbmbaa
