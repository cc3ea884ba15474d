/-
  What the laws' first call comes to.
-/
import Derived.Test.YtfkgllbooopfdaaSetsH
import Derived.WalkKit
import Derived.WalkSpells
import Derived.WalkLawsBesides
import Derived.Handy
import Derived.Lib.Hide
namespace Go.Proofs.Ytfkgllbooopfdaa
set_option linter.unusedSimpArgs false
set_option linter.unusedVariables false
open Go.RowKit
attribute [local go_sem] eqSet
theorem cnt_alive : Ear.cnt128 (Ear.clean (ofL [0, 33])) = 2 := by decide

end Go.Proofs.Ytfkgllbooopfdaa
