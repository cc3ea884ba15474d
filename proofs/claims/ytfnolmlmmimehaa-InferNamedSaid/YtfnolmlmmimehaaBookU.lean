/-
  What the law BookJoin comes to.
-/
import Derived.Test.YtfnolmlmmimehaaBookT
import Derived.Deep.DeepCutAuto
import Derived.BigQuiet
import Derived.Deep.DeepBigQuietO
namespace Go.Proofs.Ytfnolmlmmimehaa
set_option linter.unusedSimpArgs false
set_option linter.unusedVariables false
open Go.RowKit
theorem List_N {w0 W : World} {bs : List Bk} (i : Nat) {B g cap : Nat} {L : List Nt} (h : Books w0 W bs) (hi : bs[i]? = some ⟨B, g, cap, L⟩) : Calls Try.prog 90 #[.pointer (some ⟨B, 0, none⟩)] W fun e W' =>
    ∃ g' cap', e = .returned (.slice (some ⟨g', 0, none⟩) L.length cap') ∧ Hid (LiesV (ntsV L) (some ⟨g', 0, none⟩) W') ∧ W.heap.size ≤ g' ∧ Below W.heap.size W W' := by
  obtain ⟨h1, h2, h3⟩ := h.at_ i _ hi
  refine (List_at h1 h3).mono ?_
  rintro e W' ⟨g', cap', he, hown, hb⟩
  exact ⟨g', cap', he, owns_liesV hown, (hown.lt g' rfl).1, hb⟩
attribute [local irreducible] takesN takeN newErr newB mergeOk takeB mergeN mergeS mergeE
end Go.Proofs.Ytfnolmlmmimehaa
