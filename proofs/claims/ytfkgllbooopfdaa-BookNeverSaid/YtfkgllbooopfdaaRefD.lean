/-
  What Union, Meet, Less of the document's answer come to.
-/
import Derived.Test.YtfkgllbooopfdaaRefC
import Derived.Test.YtfkgllbooopfdaaCut
import Derived.WalkKit
import Derived.LoopTactic
import Derived.WalkSpells
import Derived.WalkLawsBesides
import Derived.Handy
import Derived.Lib.Hide
import Derived.Deep.Cut
namespace Go.Proofs.Ytfkgllbooopfdaa
set_option linter.unusedSimpArgs false
set_option linter.unusedVariables false
open Go.RowKit
attribute [local go_sem] rowL_len
attribute [local irreducible] Ear.wd Ear.one Ear.clean
theorem mix_get {f g : Nat → Bool} {k : Nat} (h : k < 100) : (rowL fun j => if j < k then g j else f j)[k]? = some (.bool (f k)) := by
  rw [rowL_get _ _ h]; simp
theorem mix_set {f g : Nat → Bool} {k : Nat} {b : Bool} (h : g k = b) : (rowL fun j => if j < k then g j else f j).set k (.bool b) = rowL fun j => if j < k + 1 then g j else f j := by
  apply rowL_set
  intro i _
  by_cases hi : i = k
  · subst hi; simp [h]
  · by_cases hl : i < k
    · have : i < k + 1 := by omega
      simp [hi, hl, this]
    · have : ¬ i < k + 1 := by omega
      simp [hi, hl, this]
theorem mix_zero (f g : Nat → Bool) : (rowL fun j => if j < 0 then g j else f j) = rowL f := rowL_congr (fun i _ => by simp)
theorem mix_all (f g : Nat → Bool) : (rowL fun j => if j < 100 then g j else f j) = rowL g := rowL_congr (fun i h => by simp [h])

end Go.Proofs.Ytfkgllbooopfdaa
