/-
  No cell of these rows narrows 'for every input' (looked for: loops, veiled, ifaces, maps, wideKeys, modest, calm, conditions, laid).
  DERIVED. THE GIVEN ROWS OF THIS SEAT. 7 by the template 'for every input the law returns true; each argument reads behind the call as it read before'; 0 by the template 'total and deterministic' (their statements: YtfnolmlmmimehaaTotals.lean).
  GIVEN WITH THE SEED: the statements are not yours to turn. If you find one false, say at which input.
  Laid BY PROGRAM, IN A SANDBOX (cutbox-rows.mjs): the forced cells as the released guide's own fill.sh prints them over the translation 2ea0e4e4805b969f… (all of the seat's roots in one cut). By AI agents, Wed Nov 11 2026. No macro, syntax, notation, axiom, sorry.
-/
import Derived.Test.YtfnolmlmmimehaaChecked
import GoSem.Claim
import GoSem.ClaimJoined
import GoSem.ClaimMapViews
import Derived.JoinedTies
import Derived.KernelRfl
namespace Go.Proofs.Ytfnolmlmmimehaa
/- THE CELL 'sum', in the pinned program and in every row, IS THE sha256 OF THE DUMP (.gsa) THAT YtfnolmlmmimehaaProg.lean LOADS. Nothing in Lean hashes anything: it is a label: what it is worth is what the hold of that sum in a sandbox is worth. -/
noncomputable def Try.pinned : Pinned := { name := "ytfnolmlmmimehaa", sum := "2ea0e4e4805b969fcadca90d0069576a5be96a7f5cff583c0af626ed777ef430", checked := Try.checked }
namespace Rows
def none {H : Type} : Left H := { results := [], args := [] }

/-- 'earshotlaw14.InferUnions': WHATEVER THE INPUT: true; the input reads as it did. -/
def inferUnionsSpec : ChangeSpec := { name := "inferUnions", fn := fun _ => fun
  | [d] => { results := [.lit (.bool true)], args := [d] }
  | _ => none }
def inferUnionsRow : OpenClaim := { program := "ytfnolmlmmimehaa", sum := "2ea0e4e4805b969fcadca90d0069576a5be96a7f5cff583c0af626ed777ef430", func := "earshot/earshotlaw14.InferUnions", spec := "inferUnions", unfollowed := true, recurses := true, apart := false }
def InferUnionsSaid : Prop := inferUnionsRow.holds Try.pinned (OpenSpec.ofChange inferUnionsSpec)

/-- ITS FALSE NEIGHBOUR: 'it returns false'. Refute it at one input. -/
def inferUnionsWrong : ChangeSpec := { name := "inferUnions", fn := fun _ => fun
  | [d] => { results := [.lit (.bool false)], args := [d] }
  | _ => none }
def InferUnionsWrongFalsely : Prop := inferUnionsRow.holds Try.pinned (OpenSpec.ofChange inferUnionsWrong)

/-- 'earshotlaw14.InferMissing': WHATEVER THE INPUT: true; the input reads as it did. -/
def inferMissingSpec : ChangeSpec := { name := "inferMissing", fn := fun _ => fun
  | [d1, d2, d3, d4, d5, d6, d7] => { results := [.lit (.bool true)], args := [d1, d2, d3, d4, d5, d6, d7] }
  | _ => none }
def inferMissingRow : OpenClaim := { program := "ytfnolmlmmimehaa", sum := "2ea0e4e4805b969fcadca90d0069576a5be96a7f5cff583c0af626ed777ef430", func := "earshot/earshotlaw14.InferMissing", spec := "inferMissing", unfollowed := true, recurses := true, apart := false }
def InferMissingSaid : Prop := inferMissingRow.holds Try.pinned (OpenSpec.ofChange inferMissingSpec)

/-- ITS FALSE NEIGHBOUR: 'it returns false'. Refute it at one input. -/
def inferMissingWrong : ChangeSpec := { name := "inferMissing", fn := fun _ => fun
  | [d1, d2, d3, d4, d5, d6, d7] => { results := [.lit (.bool false)], args := [d1, d2, d3, d4, d5, d6, d7] }
  | _ => none }
def InferMissingWrongFalsely : Prop := inferMissingRow.holds Try.pinned (OpenSpec.ofChange inferMissingWrong)

/-- 'earshotlaw14.InferHeard': WHATEVER THE INPUT: true; the input reads as it did. -/
def inferHeardSpec : ChangeSpec := { name := "inferHeard", fn := fun _ => fun
  | [d1, d2, d3, d4, d5, d6] => { results := [.lit (.bool true)], args := [d1, d2, d3, d4, d5, d6] }
  | _ => none }
def inferHeardRow : OpenClaim := { program := "ytfnolmlmmimehaa", sum := "2ea0e4e4805b969fcadca90d0069576a5be96a7f5cff583c0af626ed777ef430", func := "earshot/earshotlaw14.InferHeard", spec := "inferHeard", unfollowed := true, recurses := true, apart := false }
def InferHeardSaid : Prop := inferHeardRow.holds Try.pinned (OpenSpec.ofChange inferHeardSpec)

/-- ITS FALSE NEIGHBOUR: 'it returns false'. Refute it at one input. -/
def inferHeardWrong : ChangeSpec := { name := "inferHeard", fn := fun _ => fun
  | [d1, d2, d3, d4, d5, d6] => { results := [.lit (.bool false)], args := [d1, d2, d3, d4, d5, d6] }
  | _ => none }
def InferHeardWrongFalsely : Prop := inferHeardRow.holds Try.pinned (OpenSpec.ofChange inferHeardWrong)

/-- 'earshotlaw14.InferCovers': WHATEVER THE INPUT: true; the input reads as it did. -/
def inferCoversSpec : ChangeSpec := { name := "inferCovers", fn := fun _ => fun
  | [d1, d2, d3] => { results := [.lit (.bool true)], args := [d1, d2, d3] }
  | _ => none }
def inferCoversRow : OpenClaim := { program := "ytfnolmlmmimehaa", sum := "2ea0e4e4805b969fcadca90d0069576a5be96a7f5cff583c0af626ed777ef430", func := "earshot/earshotlaw14.InferCovers", spec := "inferCovers", unfollowed := true, recurses := true, apart := false }
def InferCoversSaid : Prop := inferCoversRow.holds Try.pinned (OpenSpec.ofChange inferCoversSpec)

/-- ITS FALSE NEIGHBOUR: 'it returns false'. Refute it at one input. -/
def inferCoversWrong : ChangeSpec := { name := "inferCovers", fn := fun _ => fun
  | [d1, d2, d3] => { results := [.lit (.bool false)], args := [d1, d2, d3] }
  | _ => none }
def InferCoversWrongFalsely : Prop := inferCoversRow.holds Try.pinned (OpenSpec.ofChange inferCoversWrong)

/-- 'earshotlaw14.InferQuorums': WHATEVER THE INPUT: true; the input reads as it did. -/
def inferQuorumsSpec : ChangeSpec := { name := "inferQuorums", fn := fun _ => fun
  | [d1, d2, d3, d4, d5] => { results := [.lit (.bool true)], args := [d1, d2, d3, d4, d5] }
  | _ => none }
def inferQuorumsRow : OpenClaim := { program := "ytfnolmlmmimehaa", sum := "2ea0e4e4805b969fcadca90d0069576a5be96a7f5cff583c0af626ed777ef430", func := "earshot/earshotlaw14.InferQuorums", spec := "inferQuorums", unfollowed := true, recurses := true, apart := false }
def InferQuorumsSaid : Prop := inferQuorumsRow.holds Try.pinned (OpenSpec.ofChange inferQuorumsSpec)

/-- ITS FALSE NEIGHBOUR: 'it returns false'. Refute it at one input. -/
def inferQuorumsWrong : ChangeSpec := { name := "inferQuorums", fn := fun _ => fun
  | [d1, d2, d3, d4, d5] => { results := [.lit (.bool false)], args := [d1, d2, d3, d4, d5] }
  | _ => none }
def InferQuorumsWrongFalsely : Prop := inferQuorumsRow.holds Try.pinned (OpenSpec.ofChange inferQuorumsWrong)

/-- 'earshotlaw14.InferNamed': WHATEVER THE INPUT: true; the input reads as it did. -/
def inferNamedSpec : ChangeSpec := { name := "inferNamed", fn := fun _ => fun
  | [d1, d2, d3] => { results := [.lit (.bool true)], args := [d1, d2, d3] }
  | _ => none }
def inferNamedRow : OpenClaim := { program := "ytfnolmlmmimehaa", sum := "2ea0e4e4805b969fcadca90d0069576a5be96a7f5cff583c0af626ed777ef430", func := "earshot/earshotlaw14.InferNamed", spec := "inferNamed", unfollowed := true, recurses := true, apart := false }
def InferNamedSaid : Prop := inferNamedRow.holds Try.pinned (OpenSpec.ofChange inferNamedSpec)

/-- ITS FALSE NEIGHBOUR: 'it returns false'. Refute it at one input. -/
def inferNamedWrong : ChangeSpec := { name := "inferNamed", fn := fun _ => fun
  | [d1, d2, d3] => { results := [.lit (.bool false)], args := [d1, d2, d3] }
  | _ => none }
def InferNamedWrongFalsely : Prop := inferNamedRow.holds Try.pinned (OpenSpec.ofChange inferNamedWrong)

/-- 'earshotlaw14.InferBegun': WHATEVER THE INPUT: true; the input reads as it did. -/
def inferBegunSpec : ChangeSpec := { name := "inferBegun", fn := fun _ => fun
  | [d1, d2, d3, d4, d5] => { results := [.lit (.bool true)], args := [d1, d2, d3, d4, d5] }
  | _ => none }
def inferBegunRow : OpenClaim := { program := "ytfnolmlmmimehaa", sum := "2ea0e4e4805b969fcadca90d0069576a5be96a7f5cff583c0af626ed777ef430", func := "earshot/earshotlaw14.InferBegun", spec := "inferBegun", unfollowed := true, recurses := true, apart := false }
def InferBegunSaid : Prop := inferBegunRow.holds Try.pinned (OpenSpec.ofChange inferBegunSpec)

/-- ITS FALSE NEIGHBOUR: 'it returns false'. Refute it at one input. -/
def inferBegunWrong : ChangeSpec := { name := "inferBegun", fn := fun _ => fun
  | [d1, d2, d3, d4, d5] => { results := [.lit (.bool false)], args := [d1, d2, d3, d4, d5] }
  | _ => none }
def InferBegunWrongFalsely : Prop := inferBegunRow.holds Try.pinned (OpenSpec.ofChange inferBegunWrong)

/- THE SECOND FORM. 'bulk': how many values and letters a reading holds, each counted each time it is reached (what is shared counts as often as it is met; a slice's spare places count too). A statement '..UptoSaid' is the law's where the arguments, and the package variables that the reading takes, are together of bulk at most 1048576: NARROWER than '..Said'. Prove '..Said' where nothing that the law and all that it calls make is longer than what came in: it says more and counts as full. Else prove '..UptoSaid'. A law counts once. -/
mutual
def uptoBulk {H : Type} : DataW H → Nat
  | .lit (.string bytes) => bytes.length + 1
  | .lit _ => 1
  | .nil => 1
  | .ptr d => uptoBulk d + 1
  | .slice elems spare => uptoBulkAll elems + uptoBulkAll spare + 1
  | .agg parts => uptoBulkAll parts + 1
  | .iface _ d => uptoBulk d + 1
  | .map entries => uptoBulkEntries entries + 1
  | .held _ => 1
def uptoBulkAll {H : Type} : List (DataW H) → Nat
  | [] => 0
  | d :: r => uptoBulk d + uptoBulkAll r
def uptoBulkEntries {H : Type} : List (Lit × DataW H) → Nat
  | [] => 0
  | x :: r => uptoBulkEntry x + uptoBulkEntries r
def uptoBulkEntry {H : Type} : Lit × DataW H → Nat
  | (.string bytes, d) => bytes.length + uptoBulk d + 1
  | (_, d) => uptoBulk d + 1
 end
def uptoSmall : (H : Type) → List (DataW H) → Bool := fun _ ds => decide (uptoBulkAll ds ≤ 1048576)
def OpenSpec.upto (s : _root_.Go.ChangeSpec) : _root_.Go.OpenSpec := { _root_.Go.OpenSpec.ofChange s with cond := some uptoSmall }

/-- 'earshotlaw14.InferUnions', WHERE WHAT IT READS IS OF BULK AT MOST 1048576: true; the input reads as it did. -/
def inferUnionsUptoRow : OpenClaim := { program := "ytfnolmlmmimehaa", sum := "2ea0e4e4805b969fcadca90d0069576a5be96a7f5cff583c0af626ed777ef430", func := "earshot/earshotlaw14.InferUnions", spec := "inferUnions", unfollowed := true, recurses := true, apart := false, narrowed := true }
def InferUnionsUptoSaid : Prop := inferUnionsUptoRow.holds Try.pinned (OpenSpec.upto inferUnionsSpec)

/-- 'earshotlaw14.InferMissing', WHERE WHAT IT READS IS OF BULK AT MOST 1048576: true; the input reads as it did. -/
def inferMissingUptoRow : OpenClaim := { program := "ytfnolmlmmimehaa", sum := "2ea0e4e4805b969fcadca90d0069576a5be96a7f5cff583c0af626ed777ef430", func := "earshot/earshotlaw14.InferMissing", spec := "inferMissing", unfollowed := true, recurses := true, apart := false, narrowed := true }
def InferMissingUptoSaid : Prop := inferMissingUptoRow.holds Try.pinned (OpenSpec.upto inferMissingSpec)

/-- 'earshotlaw14.InferHeard', WHERE WHAT IT READS IS OF BULK AT MOST 1048576: true; the input reads as it did. -/
def inferHeardUptoRow : OpenClaim := { program := "ytfnolmlmmimehaa", sum := "2ea0e4e4805b969fcadca90d0069576a5be96a7f5cff583c0af626ed777ef430", func := "earshot/earshotlaw14.InferHeard", spec := "inferHeard", unfollowed := true, recurses := true, apart := false, narrowed := true }
def InferHeardUptoSaid : Prop := inferHeardUptoRow.holds Try.pinned (OpenSpec.upto inferHeardSpec)

/-- 'earshotlaw14.InferCovers', WHERE WHAT IT READS IS OF BULK AT MOST 1048576: true; the input reads as it did. -/
def inferCoversUptoRow : OpenClaim := { program := "ytfnolmlmmimehaa", sum := "2ea0e4e4805b969fcadca90d0069576a5be96a7f5cff583c0af626ed777ef430", func := "earshot/earshotlaw14.InferCovers", spec := "inferCovers", unfollowed := true, recurses := true, apart := false, narrowed := true }
def InferCoversUptoSaid : Prop := inferCoversUptoRow.holds Try.pinned (OpenSpec.upto inferCoversSpec)

/-- 'earshotlaw14.InferQuorums', WHERE WHAT IT READS IS OF BULK AT MOST 1048576: true; the input reads as it did. -/
def inferQuorumsUptoRow : OpenClaim := { program := "ytfnolmlmmimehaa", sum := "2ea0e4e4805b969fcadca90d0069576a5be96a7f5cff583c0af626ed777ef430", func := "earshot/earshotlaw14.InferQuorums", spec := "inferQuorums", unfollowed := true, recurses := true, apart := false, narrowed := true }
def InferQuorumsUptoSaid : Prop := inferQuorumsUptoRow.holds Try.pinned (OpenSpec.upto inferQuorumsSpec)

/-- 'earshotlaw14.InferNamed', WHERE WHAT IT READS IS OF BULK AT MOST 1048576: true; the input reads as it did. -/
def inferNamedUptoRow : OpenClaim := { program := "ytfnolmlmmimehaa", sum := "2ea0e4e4805b969fcadca90d0069576a5be96a7f5cff583c0af626ed777ef430", func := "earshot/earshotlaw14.InferNamed", spec := "inferNamed", unfollowed := true, recurses := true, apart := false, narrowed := true }
def InferNamedUptoSaid : Prop := inferNamedUptoRow.holds Try.pinned (OpenSpec.upto inferNamedSpec)

/-- 'earshotlaw14.InferBegun', WHERE WHAT IT READS IS OF BULK AT MOST 1048576: true; the input reads as it did. -/
def inferBegunUptoRow : OpenClaim := { program := "ytfnolmlmmimehaa", sum := "2ea0e4e4805b969fcadca90d0069576a5be96a7f5cff583c0af626ed777ef430", func := "earshot/earshotlaw14.InferBegun", spec := "inferBegun", unfollowed := true, recurses := true, apart := false, narrowed := true }
def InferBegunUptoSaid : Prop := inferBegunUptoRow.holds Try.pinned (OpenSpec.upto inferBegunSpec)

end Rows
end Go.Proofs.Ytfnolmlmmimehaa
