/-
  A slice of ints that came in, read.
-/
import Derived.Test.YtklfkfnckdeifaaOpen
import Derived.Test.YtklfkfnckdeifaaCut
import Derived.ChangeSlices
import Derived.ProofKit
import Derived.OpenShut
namespace Go.Proofs.Ytklfkfnckdeifaa
set_option linter.unusedSimpArgs false
set_option linter.unusedVariables false
open Go.ChangeShapes Go.WideShapes Go.ChangeAt Go.RowKit
theorem cellsI : Try.prog.cellsOf 3 = 1 := by kernel_rfl
theorem spot_none {w : World} {a : Addr} {v : Value} (h : w.cell? a = some v) : ∃ B o, a = ⟨B, o, none⟩ ∧ B < w.heap.size := by
  obtain ⟨B, o, s⟩ := a
  refine ⟨B, o, ?_, World.block_lt_of_cell? w _ h⟩
  cases s with
  | none => rfl
  | some s =>
    unfold World.cell? at h
    split at h <;> simp at h
theorem add_none (B o i : Nat) : (⟨B, o, none⟩ : Addr).add i = ⟨B, o + i, none⟩ := by
  unfold Addr.add
  by_cases h : i = 0
  · subst h; simp
  · simp [h]
end Go.Proofs.Ytklfkfnckdeifaa
