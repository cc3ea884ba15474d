/-
  No cell of these rows narrows 'for every input' (looked for: loops, veiled, ifaces, maps, wideKeys, modest, calm, conditions, laid).
  DERIVED. THE GIVEN ROWS OF THIS SEAT. 10 by the template 'for every input the law returns true; each argument reads behind the call as it read before'; 0 by the template 'total and deterministic' (their statements: YtlhmmjoemdckpaaTotals.lean).
  GIVEN WITH THE SEED: the statements are not yours to turn. If you find one false, say at which input.
  Laid BY PROGRAM, IN A SANDBOX (cutbox-rows.mjs): the forced cells as the released guide's own fill.sh prints them over the translation 7743c02685e17245… (all of the seat's roots in one cut). By AI agents, Wed Nov 11 2026. No macro, syntax, notation, axiom, sorry.
-/
import Derived.Test.YtlhmmjoemdckpaaChecked
import GoSem.Claim
import GoSem.ClaimJoined
import GoSem.ClaimMapViews
import Derived.JoinedTies
import Derived.KernelRfl
namespace Go.Proofs.Ytlhmmjoemdckpaa
/- THE CELL 'sum', in the pinned program and in every row, IS THE sha256 OF THE DUMP (.gsa) THAT YtlhmmjoemdckpaaProg.lean LOADS. Nothing in Lean hashes anything: it is a label: what it is worth is what the hold of that sum in a sandbox is worth. -/
noncomputable def Try.pinned : Pinned := { name := "ytlhmmjoemdckpaa", sum := "7743c02685e172455b185dd77d17adaf414e6bb7adc24b1c93fdd13da4a8026e", checked := Try.checked }
namespace Rows
def none {H : Type} : Left H := { results := [], args := [] }

/-- 'earshotlaw3.SetAlgebra': WHATEVER THE INPUT: true; the input reads as it did. -/
def setAlgebraSpec : ChangeSpec := { name := "setAlgebra", fn := fun _ => fun
  | [d1, d2, d3] => { results := [.lit (.bool true)], args := [d1, d2, d3] }
  | _ => none }
def setAlgebraRow : OpenClaim := { program := "ytlhmmjoemdckpaa", sum := "7743c02685e172455b185dd77d17adaf414e6bb7adc24b1c93fdd13da4a8026e", func := "earshot/earshotlaw3.SetAlgebra", spec := "setAlgebra", unfollowed := true, recurses := true, apart := false }
def SetAlgebraSaid : Prop := setAlgebraRow.holds Try.pinned (OpenSpec.ofChange setAlgebraSpec)

/-- ITS FALSE NEIGHBOUR: 'it returns false'. Refute it at one input. -/
def setAlgebraWrong : ChangeSpec := { name := "setAlgebra", fn := fun _ => fun
  | [d1, d2, d3] => { results := [.lit (.bool false)], args := [d1, d2, d3] }
  | _ => none }
def SetAlgebraWrongFalsely : Prop := setAlgebraRow.holds Try.pinned (OpenSpec.ofChange setAlgebraWrong)

/-- 'earshotlaw3.SetMakes': WHATEVER THE INPUT: true; the input reads as it did. -/
def setMakesSpec : ChangeSpec := { name := "setMakes", fn := fun _ => fun
  | [d1, d2, d3] => { results := [.lit (.bool true)], args := [d1, d2, d3] }
  | _ => none }
def setMakesRow : OpenClaim := { program := "ytlhmmjoemdckpaa", sum := "7743c02685e172455b185dd77d17adaf414e6bb7adc24b1c93fdd13da4a8026e", func := "earshot/earshotlaw3.SetMakes", spec := "setMakes", unfollowed := true, recurses := true, apart := false }
def SetMakesSaid : Prop := setMakesRow.holds Try.pinned (OpenSpec.ofChange setMakesSpec)

/-- ITS FALSE NEIGHBOUR: 'it returns false'. Refute it at one input. -/
def setMakesWrong : ChangeSpec := { name := "setMakes", fn := fun _ => fun
  | [d1, d2, d3] => { results := [.lit (.bool false)], args := [d1, d2, d3] }
  | _ => none }
def SetMakesWrongFalsely : Prop := setMakesRow.holds Try.pinned (OpenSpec.ofChange setMakesWrong)

/-- 'earshotlaw3.SetGoes': WHATEVER THE INPUT: true; the input reads as it did. -/
def setGoesSpec : ChangeSpec := { name := "setGoes", fn := fun _ => fun
  | [d1, d2] => { results := [.lit (.bool true)], args := [d1, d2] }
  | _ => none }
def setGoesRow : OpenClaim := { program := "ytlhmmjoemdckpaa", sum := "7743c02685e172455b185dd77d17adaf414e6bb7adc24b1c93fdd13da4a8026e", func := "earshot/earshotlaw3.SetGoes", spec := "setGoes", unfollowed := true, recurses := true, apart := false }
def SetGoesSaid : Prop := setGoesRow.holds Try.pinned (OpenSpec.ofChange setGoesSpec)

/-- ITS FALSE NEIGHBOUR: 'it returns false'. Refute it at one input. -/
def setGoesWrong : ChangeSpec := { name := "setGoes", fn := fun _ => fun
  | [d1, d2] => { results := [.lit (.bool false)], args := [d1, d2] }
  | _ => none }
def SetGoesWrongFalsely : Prop := setGoesRow.holds Try.pinned (OpenSpec.ofChange setGoesWrong)

/-- 'earshotlaw3.SetBits': WHATEVER THE INPUT: true; the input reads as it did. -/
def setBitsSpec : ChangeSpec := { name := "setBits", fn := fun _ => fun
  | [d1, d2] => { results := [.lit (.bool true)], args := [d1, d2] }
  | _ => none }
def setBitsRow : OpenClaim := { program := "ytlhmmjoemdckpaa", sum := "7743c02685e172455b185dd77d17adaf414e6bb7adc24b1c93fdd13da4a8026e", func := "earshot/earshotlaw3.SetBits", spec := "setBits", unfollowed := true, recurses := true, apart := false }
def SetBitsSaid : Prop := setBitsRow.holds Try.pinned (OpenSpec.ofChange setBitsSpec)

/-- ITS FALSE NEIGHBOUR: 'it returns false'. Refute it at one input. -/
def setBitsWrong : ChangeSpec := { name := "setBits", fn := fun _ => fun
  | [d1, d2] => { results := [.lit (.bool false)], args := [d1, d2] }
  | _ => none }
def SetBitsWrongFalsely : Prop := setBitsRow.holds Try.pinned (OpenSpec.ofChange setBitsWrong)

/-- 'earshotlaw3.SetAll': WHATEVER THE INPUT: true; the input reads as it did. -/
def setAllSpec : ChangeSpec := { name := "setAll", fn := fun _ => fun
  | [d] => { results := [.lit (.bool true)], args := [d] }
  | _ => none }
def setAllRow : OpenClaim := { program := "ytlhmmjoemdckpaa", sum := "7743c02685e172455b185dd77d17adaf414e6bb7adc24b1c93fdd13da4a8026e", func := "earshot/earshotlaw3.SetAll", spec := "setAll", unfollowed := true, recurses := true, apart := false }
def SetAllSaid : Prop := setAllRow.holds Try.pinned (OpenSpec.ofChange setAllSpec)

/-- ITS FALSE NEIGHBOUR: 'it returns false'. Refute it at one input. -/
def setAllWrong : ChangeSpec := { name := "setAll", fn := fun _ => fun
  | [d] => { results := [.lit (.bool false)], args := [d] }
  | _ => none }
def SetAllWrongFalsely : Prop := setAllRow.holds Try.pinned (OpenSpec.ofChange setAllWrong)

/-- 'earshotlaw3.SetOrder': WHATEVER THE INPUT: true; the input reads as it did. -/
def setOrderSpec : ChangeSpec := { name := "setOrder", fn := fun _ => fun
  | [d1, d2, d3] => { results := [.lit (.bool true)], args := [d1, d2, d3] }
  | _ => none }
def setOrderRow : OpenClaim := { program := "ytlhmmjoemdckpaa", sum := "7743c02685e172455b185dd77d17adaf414e6bb7adc24b1c93fdd13da4a8026e", func := "earshot/earshotlaw3.SetOrder", spec := "setOrder", unfollowed := true, recurses := true, apart := false }
def SetOrderSaid : Prop := setOrderRow.holds Try.pinned (OpenSpec.ofChange setOrderSpec)

/-- ITS FALSE NEIGHBOUR: 'it returns false'. Refute it at one input. -/
def setOrderWrong : ChangeSpec := { name := "setOrder", fn := fun _ => fun
  | [d1, d2, d3] => { results := [.lit (.bool false)], args := [d1, d2, d3] }
  | _ => none }
def SetOrderWrongFalsely : Prop := setOrderRow.holds Try.pinned (OpenSpec.ofChange setOrderWrong)

/-- 'earshotlaw3.SetTwos': WHATEVER THE INPUT: true; the input reads as it did. -/
def setTwosSpec : ChangeSpec := { name := "setTwos", fn := fun _ => fun
  | [d1, d2] => { results := [.lit (.bool true)], args := [d1, d2] }
  | _ => none }
def setTwosRow : OpenClaim := { program := "ytlhmmjoemdckpaa", sum := "7743c02685e172455b185dd77d17adaf414e6bb7adc24b1c93fdd13da4a8026e", func := "earshot/earshotlaw3.SetTwos", spec := "setTwos", unfollowed := true, recurses := true, apart := false }
def SetTwosSaid : Prop := setTwosRow.holds Try.pinned (OpenSpec.ofChange setTwosSpec)

/-- ITS FALSE NEIGHBOUR: 'it returns false'. Refute it at one input. -/
def setTwosWrong : ChangeSpec := { name := "setTwos", fn := fun _ => fun
  | [d1, d2] => { results := [.lit (.bool false)], args := [d1, d2] }
  | _ => none }
def SetTwosWrongFalsely : Prop := setTwosRow.holds Try.pinned (OpenSpec.ofChange setTwosWrong)

/-- 'earshotlaw3.SetQuorums': WHATEVER THE INPUT: true; the input reads as it did. -/
def setQuorumsSpec : ChangeSpec := { name := "setQuorums", fn := fun _ => fun
  | [d1, d2, d3, d4] => { results := [.lit (.bool true)], args := [d1, d2, d3, d4] }
  | _ => none }
def setQuorumsRow : OpenClaim := { program := "ytlhmmjoemdckpaa", sum := "7743c02685e172455b185dd77d17adaf414e6bb7adc24b1c93fdd13da4a8026e", func := "earshot/earshotlaw3.SetQuorums", spec := "setQuorums", unfollowed := true, recurses := true, apart := false }
def SetQuorumsSaid : Prop := setQuorumsRow.holds Try.pinned (OpenSpec.ofChange setQuorumsSpec)

/-- ITS FALSE NEIGHBOUR: 'it returns false'. Refute it at one input. -/
def setQuorumsWrong : ChangeSpec := { name := "setQuorums", fn := fun _ => fun
  | [d1, d2, d3, d4] => { results := [.lit (.bool false)], args := [d1, d2, d3, d4] }
  | _ => none }
def SetQuorumsWrongFalsely : Prop := setQuorumsRow.holds Try.pinned (OpenSpec.ofChange setQuorumsWrong)

/-- 'earshotlaw3.SetPlaces': WHATEVER THE INPUT: true; the input reads as it did. -/
def setPlacesSpec : ChangeSpec := { name := "setPlaces", fn := fun _ => fun
  | [d1, d2] => { results := [.lit (.bool true)], args := [d1, d2] }
  | _ => none }
def setPlacesRow : OpenClaim := { program := "ytlhmmjoemdckpaa", sum := "7743c02685e172455b185dd77d17adaf414e6bb7adc24b1c93fdd13da4a8026e", func := "earshot/earshotlaw3.SetPlaces", spec := "setPlaces", unfollowed := true, recurses := true, apart := false }
def SetPlacesSaid : Prop := setPlacesRow.holds Try.pinned (OpenSpec.ofChange setPlacesSpec)

/-- ITS FALSE NEIGHBOUR: 'it returns false'. Refute it at one input. -/
def setPlacesWrong : ChangeSpec := { name := "setPlaces", fn := fun _ => fun
  | [d1, d2] => { results := [.lit (.bool false)], args := [d1, d2] }
  | _ => none }
def SetPlacesWrongFalsely : Prop := setPlacesRow.holds Try.pinned (OpenSpec.ofChange setPlacesWrong)

/-- 'earshotlaw3.SetOnes': WHATEVER THE INPUT: true; the input reads as it did. -/
def setOnesSpec : ChangeSpec := { name := "setOnes", fn := fun _ => fun
  | [d1, d2, d3] => { results := [.lit (.bool true)], args := [d1, d2, d3] }
  | _ => none }
def setOnesRow : OpenClaim := { program := "ytlhmmjoemdckpaa", sum := "7743c02685e172455b185dd77d17adaf414e6bb7adc24b1c93fdd13da4a8026e", func := "earshot/earshotlaw3.SetOnes", spec := "setOnes", unfollowed := true, recurses := true, apart := false }
def SetOnesSaid : Prop := setOnesRow.holds Try.pinned (OpenSpec.ofChange setOnesSpec)

/-- ITS FALSE NEIGHBOUR: 'it returns false'. Refute it at one input. -/
def setOnesWrong : ChangeSpec := { name := "setOnes", fn := fun _ => fun
  | [d1, d2, d3] => { results := [.lit (.bool false)], args := [d1, d2, d3] }
  | _ => none }
def SetOnesWrongFalsely : Prop := setOnesRow.holds Try.pinned (OpenSpec.ofChange setOnesWrong)

/- THE SECOND FORM. 'bulk': how many values and letters a reading holds, each counted each time it is reached (what is shared counts as often as it is met; a slice's spare places count too). A statement '..UptoSaid' is the law's where the arguments, and the package variables that the reading takes, are together of bulk at most 1048576: NARROWER than '..Said'. Prove '..Said' where nothing that the law and all that it calls make is longer than what came in: it says more and counts as full. Else prove '..UptoSaid'. A law counts once. -/
mutual
def uptoBulk {H : Type} : DataW H → Nat
  | .lit (.string bytes) => bytes.length + 1
  | .lit _ => 1
  | .nil => 1
  | .ptr d => uptoBulk d + 1
  | .slice elems spare => uptoBulkAll elems + uptoBulkAll spare + 1
  | .agg parts => uptoBulkAll parts + 1
  | .iface _ d => uptoBulk d + 1
  | .map entries => uptoBulkEntries entries + 1
  | .held _ => 1
def uptoBulkAll {H : Type} : List (DataW H) → Nat
  | [] => 0
  | d :: r => uptoBulk d + uptoBulkAll r
def uptoBulkEntries {H : Type} : List (Lit × DataW H) → Nat
  | [] => 0
  | x :: r => uptoBulkEntry x + uptoBulkEntries r
def uptoBulkEntry {H : Type} : Lit × DataW H → Nat
  | (.string bytes, d) => bytes.length + uptoBulk d + 1
  | (_, d) => uptoBulk d + 1
 end
def uptoSmall : (H : Type) → List (DataW H) → Bool := fun _ ds => decide (uptoBulkAll ds ≤ 1048576)
def OpenSpec.upto (s : _root_.Go.ChangeSpec) : _root_.Go.OpenSpec := { _root_.Go.OpenSpec.ofChange s with cond := some uptoSmall }

/-- 'earshotlaw3.SetAlgebra', WHERE WHAT IT READS IS OF BULK AT MOST 1048576: true; the input reads as it did. -/
def setAlgebraUptoRow : OpenClaim := { program := "ytlhmmjoemdckpaa", sum := "7743c02685e172455b185dd77d17adaf414e6bb7adc24b1c93fdd13da4a8026e", func := "earshot/earshotlaw3.SetAlgebra", spec := "setAlgebra", unfollowed := true, recurses := true, apart := false, narrowed := true }
def SetAlgebraUptoSaid : Prop := setAlgebraUptoRow.holds Try.pinned (OpenSpec.upto setAlgebraSpec)

/-- 'earshotlaw3.SetMakes', WHERE WHAT IT READS IS OF BULK AT MOST 1048576: true; the input reads as it did. -/
def setMakesUptoRow : OpenClaim := { program := "ytlhmmjoemdckpaa", sum := "7743c02685e172455b185dd77d17adaf414e6bb7adc24b1c93fdd13da4a8026e", func := "earshot/earshotlaw3.SetMakes", spec := "setMakes", unfollowed := true, recurses := true, apart := false, narrowed := true }
def SetMakesUptoSaid : Prop := setMakesUptoRow.holds Try.pinned (OpenSpec.upto setMakesSpec)

/-- 'earshotlaw3.SetGoes', WHERE WHAT IT READS IS OF BULK AT MOST 1048576: true; the input reads as it did. -/
def setGoesUptoRow : OpenClaim := { program := "ytlhmmjoemdckpaa", sum := "7743c02685e172455b185dd77d17adaf414e6bb7adc24b1c93fdd13da4a8026e", func := "earshot/earshotlaw3.SetGoes", spec := "setGoes", unfollowed := true, recurses := true, apart := false, narrowed := true }
def SetGoesUptoSaid : Prop := setGoesUptoRow.holds Try.pinned (OpenSpec.upto setGoesSpec)

/-- 'earshotlaw3.SetBits', WHERE WHAT IT READS IS OF BULK AT MOST 1048576: true; the input reads as it did. -/
def setBitsUptoRow : OpenClaim := { program := "ytlhmmjoemdckpaa", sum := "7743c02685e172455b185dd77d17adaf414e6bb7adc24b1c93fdd13da4a8026e", func := "earshot/earshotlaw3.SetBits", spec := "setBits", unfollowed := true, recurses := true, apart := false, narrowed := true }
def SetBitsUptoSaid : Prop := setBitsUptoRow.holds Try.pinned (OpenSpec.upto setBitsSpec)

/-- 'earshotlaw3.SetAll', WHERE WHAT IT READS IS OF BULK AT MOST 1048576: true; the input reads as it did. -/
def setAllUptoRow : OpenClaim := { program := "ytlhmmjoemdckpaa", sum := "7743c02685e172455b185dd77d17adaf414e6bb7adc24b1c93fdd13da4a8026e", func := "earshot/earshotlaw3.SetAll", spec := "setAll", unfollowed := true, recurses := true, apart := false, narrowed := true }
def SetAllUptoSaid : Prop := setAllUptoRow.holds Try.pinned (OpenSpec.upto setAllSpec)

/-- 'earshotlaw3.SetOrder', WHERE WHAT IT READS IS OF BULK AT MOST 1048576: true; the input reads as it did. -/
def setOrderUptoRow : OpenClaim := { program := "ytlhmmjoemdckpaa", sum := "7743c02685e172455b185dd77d17adaf414e6bb7adc24b1c93fdd13da4a8026e", func := "earshot/earshotlaw3.SetOrder", spec := "setOrder", unfollowed := true, recurses := true, apart := false, narrowed := true }
def SetOrderUptoSaid : Prop := setOrderUptoRow.holds Try.pinned (OpenSpec.upto setOrderSpec)

/-- 'earshotlaw3.SetTwos', WHERE WHAT IT READS IS OF BULK AT MOST 1048576: true; the input reads as it did. -/
def setTwosUptoRow : OpenClaim := { program := "ytlhmmjoemdckpaa", sum := "7743c02685e172455b185dd77d17adaf414e6bb7adc24b1c93fdd13da4a8026e", func := "earshot/earshotlaw3.SetTwos", spec := "setTwos", unfollowed := true, recurses := true, apart := false, narrowed := true }
def SetTwosUptoSaid : Prop := setTwosUptoRow.holds Try.pinned (OpenSpec.upto setTwosSpec)

/-- 'earshotlaw3.SetQuorums', WHERE WHAT IT READS IS OF BULK AT MOST 1048576: true; the input reads as it did. -/
def setQuorumsUptoRow : OpenClaim := { program := "ytlhmmjoemdckpaa", sum := "7743c02685e172455b185dd77d17adaf414e6bb7adc24b1c93fdd13da4a8026e", func := "earshot/earshotlaw3.SetQuorums", spec := "setQuorums", unfollowed := true, recurses := true, apart := false, narrowed := true }
def SetQuorumsUptoSaid : Prop := setQuorumsUptoRow.holds Try.pinned (OpenSpec.upto setQuorumsSpec)

/-- 'earshotlaw3.SetPlaces', WHERE WHAT IT READS IS OF BULK AT MOST 1048576: true; the input reads as it did. -/
def setPlacesUptoRow : OpenClaim := { program := "ytlhmmjoemdckpaa", sum := "7743c02685e172455b185dd77d17adaf414e6bb7adc24b1c93fdd13da4a8026e", func := "earshot/earshotlaw3.SetPlaces", spec := "setPlaces", unfollowed := true, recurses := true, apart := false, narrowed := true }
def SetPlacesUptoSaid : Prop := setPlacesUptoRow.holds Try.pinned (OpenSpec.upto setPlacesSpec)

/-- 'earshotlaw3.SetOnes', WHERE WHAT IT READS IS OF BULK AT MOST 1048576: true; the input reads as it did. -/
def setOnesUptoRow : OpenClaim := { program := "ytlhmmjoemdckpaa", sum := "7743c02685e172455b185dd77d17adaf414e6bb7adc24b1c93fdd13da4a8026e", func := "earshot/earshotlaw3.SetOnes", spec := "setOnes", unfollowed := true, recurses := true, apart := false, narrowed := true }
def SetOnesUptoSaid : Prop := setOnesUptoRow.holds Try.pinned (OpenSpec.upto setOnesSpec)

end Rows
end Go.Proofs.Ytlhmmjoemdckpaa
