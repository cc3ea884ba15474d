/-
  What the calls of package idset come to: sets of sets.
-/
import Derived.Test.YtfkgllbooopfdaaSetsB
import Derived.WalkKit
import Derived.WalkSpells
import Derived.WalkLawsBesides
import Derived.Handy
import Derived.Lib.Hide
namespace Go.Proofs.Ytfkgllbooopfdaa
set_option linter.unusedSimpArgs false
set_option linter.unusedVariables false
open Go.RowKit
attribute [local go_sem] eqSet
end Go.Proofs.Ytfkgllbooopfdaa
