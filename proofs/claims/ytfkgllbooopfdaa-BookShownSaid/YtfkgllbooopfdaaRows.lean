/-
  No cell of these rows narrows 'for every input' (looked for: loops, veiled, ifaces, maps, wideKeys, modest, calm, conditions, laid).
  DERIVED. THE GIVEN ROWS OF THIS SEAT. 6 by the template 'for every input the law returns true; each argument reads behind the call as it read before'; 0 by the template 'total and deterministic' (their statements: YtfkgllbooopfdaaTotals.lean).
  GIVEN WITH THE SEED: the statements are not yours to turn. If you find one false, say at which input.
  Laid BY PROGRAM, IN A SANDBOX (cutbox-rows.mjs): the forced cells as the released guide's own fill.sh prints them over the translation b9ba5b970032274a… (all of the seat's roots in one cut). By AI agents, Wed Nov 11 2026. No macro, syntax, notation, axiom, sorry.
-/
import Derived.Test.YtfkgllbooopfdaaChecked
import GoSem.Claim
import GoSem.ClaimJoined
import GoSem.ClaimMapViews
import Derived.JoinedTies
import Derived.KernelRfl
namespace Go.Proofs.Ytfkgllbooopfdaa
/- THE CELL 'sum', in the pinned program and in every row, IS THE sha256 OF THE DUMP (.gsa) THAT YtfkgllbooopfdaaProg.lean LOADS. Nothing in Lean hashes anything: it is a label: what it is worth is what the hold of that sum in a sandbox is worth. -/
noncomputable def Try.pinned : Pinned := { name := "ytfkgllbooopfdaa", sum := "b9ba5b970032274a88a207bd5a96ecf4a5b7e9d13271f5a1f8f12ca136dc6e24", checked := Try.checked }
namespace Rows
def none {H : Type} : Left H := { results := [], args := [] }

/-- 'earshotlaw6.BookOrder': WHATEVER THE INPUT: true; the input reads as it did. -/
def bookOrderSpec : ChangeSpec := { name := "bookOrder", fn := fun _ => fun
  | [d1, d2, d3, d4, d5] => { results := [.lit (.bool true)], args := [d1, d2, d3, d4, d5] }
  | _ => none }
def bookOrderRow : OpenClaim := { program := "ytfkgllbooopfdaa", sum := "b9ba5b970032274a88a207bd5a96ecf4a5b7e9d13271f5a1f8f12ca136dc6e24", func := "earshot/earshotlaw6.BookOrder", spec := "bookOrder", unfollowed := true, recurses := true, apart := false }
def BookOrderSaid : Prop := bookOrderRow.holds Try.pinned (OpenSpec.ofChange bookOrderSpec)

/-- ITS FALSE NEIGHBOUR: 'it returns false'. Refute it at one input. -/
def bookOrderWrong : ChangeSpec := { name := "bookOrder", fn := fun _ => fun
  | [d1, d2, d3, d4, d5] => { results := [.lit (.bool false)], args := [d1, d2, d3, d4, d5] }
  | _ => none }
def BookOrderWrongFalsely : Prop := bookOrderRow.holds Try.pinned (OpenSpec.ofChange bookOrderWrong)

/-- 'earshotlaw6.BookGoes': WHATEVER THE INPUT: true; the input reads as it did. -/
def bookGoesSpec : ChangeSpec := { name := "bookGoes", fn := fun _ => fun
  | [d1, d2, d3, d4, d5, d6] => { results := [.lit (.bool true)], args := [d1, d2, d3, d4, d5, d6] }
  | _ => none }
def bookGoesRow : OpenClaim := { program := "ytfkgllbooopfdaa", sum := "b9ba5b970032274a88a207bd5a96ecf4a5b7e9d13271f5a1f8f12ca136dc6e24", func := "earshot/earshotlaw6.BookGoes", spec := "bookGoes", unfollowed := true, recurses := true, apart := false }
def BookGoesSaid : Prop := bookGoesRow.holds Try.pinned (OpenSpec.ofChange bookGoesSpec)

/-- ITS FALSE NEIGHBOUR: 'it returns false'. Refute it at one input. -/
def bookGoesWrong : ChangeSpec := { name := "bookGoes", fn := fun _ => fun
  | [d1, d2, d3, d4, d5, d6] => { results := [.lit (.bool false)], args := [d1, d2, d3, d4, d5, d6] }
  | _ => none }
def BookGoesWrongFalsely : Prop := bookGoesRow.holds Try.pinned (OpenSpec.ofChange bookGoesWrong)

/-- 'earshotlaw6.BookNever': WHATEVER THE INPUT: true; the input reads as it did. -/
def bookNeverSpec : ChangeSpec := { name := "bookNever", fn := fun _ => fun
  | [d1, d2, d3, d4] => { results := [.lit (.bool true)], args := [d1, d2, d3, d4] }
  | _ => none }
def bookNeverRow : OpenClaim := { program := "ytfkgllbooopfdaa", sum := "b9ba5b970032274a88a207bd5a96ecf4a5b7e9d13271f5a1f8f12ca136dc6e24", func := "earshot/earshotlaw6.BookNever", spec := "bookNever", unfollowed := true, recurses := true, apart := false }
def BookNeverSaid : Prop := bookNeverRow.holds Try.pinned (OpenSpec.ofChange bookNeverSpec)

/-- ITS FALSE NEIGHBOUR: 'it returns false'. Refute it at one input. -/
def bookNeverWrong : ChangeSpec := { name := "bookNever", fn := fun _ => fun
  | [d1, d2, d3, d4] => { results := [.lit (.bool false)], args := [d1, d2, d3, d4] }
  | _ => none }
def BookNeverWrongFalsely : Prop := bookNeverRow.holds Try.pinned (OpenSpec.ofChange bookNeverWrong)

/-- 'earshotlaw6.BookJoin': WHATEVER THE INPUT: true; the input reads as it did. -/
def bookJoinSpec : ChangeSpec := { name := "bookJoin", fn := fun _ => fun
  | [d1, d2, d3, d4] => { results := [.lit (.bool true)], args := [d1, d2, d3, d4] }
  | _ => none }
def bookJoinRow : OpenClaim := { program := "ytfkgllbooopfdaa", sum := "b9ba5b970032274a88a207bd5a96ecf4a5b7e9d13271f5a1f8f12ca136dc6e24", func := "earshot/earshotlaw6.BookJoin", spec := "bookJoin", unfollowed := true, recurses := true, apart := false }
def BookJoinSaid : Prop := bookJoinRow.holds Try.pinned (OpenSpec.ofChange bookJoinSpec)

/-- ITS FALSE NEIGHBOUR: 'it returns false'. Refute it at one input. -/
def bookJoinWrong : ChangeSpec := { name := "bookJoin", fn := fun _ => fun
  | [d1, d2, d3, d4] => { results := [.lit (.bool false)], args := [d1, d2, d3, d4] }
  | _ => none }
def BookJoinWrongFalsely : Prop := bookJoinRow.holds Try.pinned (OpenSpec.ofChange bookJoinWrong)

/-- 'earshotlaw6.BookTwice': WHATEVER THE INPUT: true; the input reads as it did. -/
def bookTwiceSpec : ChangeSpec := { name := "bookTwice", fn := fun _ => fun
  | [d1, d2, d3, d4] => { results := [.lit (.bool true)], args := [d1, d2, d3, d4] }
  | _ => none }
def bookTwiceRow : OpenClaim := { program := "ytfkgllbooopfdaa", sum := "b9ba5b970032274a88a207bd5a96ecf4a5b7e9d13271f5a1f8f12ca136dc6e24", func := "earshot/earshotlaw6.BookTwice", spec := "bookTwice", unfollowed := true, recurses := true, apart := false }
def BookTwiceSaid : Prop := bookTwiceRow.holds Try.pinned (OpenSpec.ofChange bookTwiceSpec)

/-- ITS FALSE NEIGHBOUR: 'it returns false'. Refute it at one input. -/
def bookTwiceWrong : ChangeSpec := { name := "bookTwice", fn := fun _ => fun
  | [d1, d2, d3, d4] => { results := [.lit (.bool false)], args := [d1, d2, d3, d4] }
  | _ => none }
def BookTwiceWrongFalsely : Prop := bookTwiceRow.holds Try.pinned (OpenSpec.ofChange bookTwiceWrong)

/-- 'earshotlaw6.BookShown': WHATEVER THE INPUT: true; the input reads as it did. -/
def bookShownSpec : ChangeSpec := { name := "bookShown", fn := fun _ => fun
  | [d1, d2, d3, d4] => { results := [.lit (.bool true)], args := [d1, d2, d3, d4] }
  | _ => none }
def bookShownRow : OpenClaim := { program := "ytfkgllbooopfdaa", sum := "b9ba5b970032274a88a207bd5a96ecf4a5b7e9d13271f5a1f8f12ca136dc6e24", func := "earshot/earshotlaw6.BookShown", spec := "bookShown", unfollowed := true, recurses := true, apart := false }
def BookShownSaid : Prop := bookShownRow.holds Try.pinned (OpenSpec.ofChange bookShownSpec)

/-- ITS FALSE NEIGHBOUR: 'it returns false'. Refute it at one input. -/
def bookShownWrong : ChangeSpec := { name := "bookShown", fn := fun _ => fun
  | [d1, d2, d3, d4] => { results := [.lit (.bool false)], args := [d1, d2, d3, d4] }
  | _ => none }
def BookShownWrongFalsely : Prop := bookShownRow.holds Try.pinned (OpenSpec.ofChange bookShownWrong)

/- THE SECOND FORM. 'bulk': how many values and letters a reading holds, each counted each time it is reached (what is shared counts as often as it is met; a slice's spare places count too). A statement '..UptoSaid' is the law's where the arguments, and the package variables that the reading takes, are together of bulk at most 1048576: NARROWER than '..Said'. Prove '..Said' where nothing that the law and all that it calls make is longer than what came in: it says more and counts as full. Else prove '..UptoSaid'. A law counts once. -/
mutual
def uptoBulk {H : Type} : DataW H → Nat
  | .lit (.string bytes) => bytes.length + 1
  | .lit _ => 1
  | .nil => 1
  | .ptr d => uptoBulk d + 1
  | .slice elems spare => uptoBulkAll elems + uptoBulkAll spare + 1
  | .agg parts => uptoBulkAll parts + 1
  | .iface _ d => uptoBulk d + 1
  | .map entries => uptoBulkEntries entries + 1
  | .held _ => 1
def uptoBulkAll {H : Type} : List (DataW H) → Nat
  | [] => 0
  | d :: r => uptoBulk d + uptoBulkAll r
def uptoBulkEntries {H : Type} : List (Lit × DataW H) → Nat
  | [] => 0
  | x :: r => uptoBulkEntry x + uptoBulkEntries r
def uptoBulkEntry {H : Type} : Lit × DataW H → Nat
  | (.string bytes, d) => bytes.length + uptoBulk d + 1
  | (_, d) => uptoBulk d + 1
 end
def uptoSmall : (H : Type) → List (DataW H) → Bool := fun _ ds => decide (uptoBulkAll ds ≤ 1048576)
def OpenSpec.upto (s : _root_.Go.ChangeSpec) : _root_.Go.OpenSpec := { _root_.Go.OpenSpec.ofChange s with cond := some uptoSmall }

/-- 'earshotlaw6.BookOrder', WHERE WHAT IT READS IS OF BULK AT MOST 1048576: true; the input reads as it did. -/
def bookOrderUptoRow : OpenClaim := { program := "ytfkgllbooopfdaa", sum := "b9ba5b970032274a88a207bd5a96ecf4a5b7e9d13271f5a1f8f12ca136dc6e24", func := "earshot/earshotlaw6.BookOrder", spec := "bookOrder", unfollowed := true, recurses := true, apart := false, narrowed := true }
def BookOrderUptoSaid : Prop := bookOrderUptoRow.holds Try.pinned (OpenSpec.upto bookOrderSpec)

/-- 'earshotlaw6.BookGoes', WHERE WHAT IT READS IS OF BULK AT MOST 1048576: true; the input reads as it did. -/
def bookGoesUptoRow : OpenClaim := { program := "ytfkgllbooopfdaa", sum := "b9ba5b970032274a88a207bd5a96ecf4a5b7e9d13271f5a1f8f12ca136dc6e24", func := "earshot/earshotlaw6.BookGoes", spec := "bookGoes", unfollowed := true, recurses := true, apart := false, narrowed := true }
def BookGoesUptoSaid : Prop := bookGoesUptoRow.holds Try.pinned (OpenSpec.upto bookGoesSpec)

/-- 'earshotlaw6.BookNever', WHERE WHAT IT READS IS OF BULK AT MOST 1048576: true; the input reads as it did. -/
def bookNeverUptoRow : OpenClaim := { program := "ytfkgllbooopfdaa", sum := "b9ba5b970032274a88a207bd5a96ecf4a5b7e9d13271f5a1f8f12ca136dc6e24", func := "earshot/earshotlaw6.BookNever", spec := "bookNever", unfollowed := true, recurses := true, apart := false, narrowed := true }
def BookNeverUptoSaid : Prop := bookNeverUptoRow.holds Try.pinned (OpenSpec.upto bookNeverSpec)

/-- 'earshotlaw6.BookJoin', WHERE WHAT IT READS IS OF BULK AT MOST 1048576: true; the input reads as it did. -/
def bookJoinUptoRow : OpenClaim := { program := "ytfkgllbooopfdaa", sum := "b9ba5b970032274a88a207bd5a96ecf4a5b7e9d13271f5a1f8f12ca136dc6e24", func := "earshot/earshotlaw6.BookJoin", spec := "bookJoin", unfollowed := true, recurses := true, apart := false, narrowed := true }
def BookJoinUptoSaid : Prop := bookJoinUptoRow.holds Try.pinned (OpenSpec.upto bookJoinSpec)

/-- 'earshotlaw6.BookTwice', WHERE WHAT IT READS IS OF BULK AT MOST 1048576: true; the input reads as it did. -/
def bookTwiceUptoRow : OpenClaim := { program := "ytfkgllbooopfdaa", sum := "b9ba5b970032274a88a207bd5a96ecf4a5b7e9d13271f5a1f8f12ca136dc6e24", func := "earshot/earshotlaw6.BookTwice", spec := "bookTwice", unfollowed := true, recurses := true, apart := false, narrowed := true }
def BookTwiceUptoSaid : Prop := bookTwiceUptoRow.holds Try.pinned (OpenSpec.upto bookTwiceSpec)

/-- 'earshotlaw6.BookShown', WHERE WHAT IT READS IS OF BULK AT MOST 1048576: true; the input reads as it did. -/
def bookShownUptoRow : OpenClaim := { program := "ytfkgllbooopfdaa", sum := "b9ba5b970032274a88a207bd5a96ecf4a5b7e9d13271f5a1f8f12ca136dc6e24", func := "earshot/earshotlaw6.BookShown", spec := "bookShown", unfollowed := true, recurses := true, apart := false, narrowed := true }
def BookShownUptoSaid : Prop := bookShownUptoRow.holds Try.pinned (OpenSpec.upto bookShownSpec)

end Rows
end Go.Proofs.Ytfkgllbooopfdaa
