/-
  What the law BookJoin comes to.
-/
import Derived.Test.YtklfkfnckdeifaaBookT
import Derived.Deep.DeepCutAuto
import Derived.BigQuiet
import Derived.Deep.DeepBigQuietO
namespace Go.Proofs.Ytklfkfnckdeifaa
set_option linter.unusedSimpArgs false
set_option linter.unusedVariables false
open Go.RowKit
attribute [local irreducible] takesN takeN newErr newB mergeOk takeB mergeN mergeS mergeE
end Go.Proofs.Ytklfkfnckdeifaa
