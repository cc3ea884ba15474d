/-
  What News and Suspects of a book come to.
-/
import Derived.Test.YtklfkfnckdeifaaBookW
namespace Go.Proofs.Ytklfkfnckdeifaa
set_option linter.unusedSimpArgs false
set_option linter.unusedVariables false
open Go.RowKit Go.Shelf
attribute [local go_sem] Oper.semAt_some
attribute [local irreducible] Ear.Pl.wpQ Ear.Pa.wpQ Ear.Fe.wpQ Ear.Fa.wpQ
def freshB (x : Nt) : Bool := (x.tag == 0) && (x.kind == 1)
def newsOf (L : List Nt) : List Nt := L.filter fun x => !freshB x
theorem newsOf_snoc (L : List Nt) (x : Nt) : newsOf (L ++ [x]) = newsOf L ++ (if freshB x = true then [] else [x]) := by
  unfold newsOf
  rw [List.filter_append]
  cases h : freshB x <;> simp [h]
theorem newsOf_nil : newsOf [] = [] := rfl
theorem newsOf_len (L : List Nt) : (newsOf L).length ≤ L.length := List.length_filter_le _ _
/-- What News tells. -/
structure NewsPost (L : List Nt) (w : World) (e : Ending) (w' : World) : Prop where
  at_ : ∃ base cap, e = .returned (.slice base (newsOf L).length cap) ∧ w'.ownsRow w.heap.size 84 3 (.slice base (newsOf L).length cap) (newsOf L).length (ntsV (newsOf L))
  below : Below w.heap.size w w'
attribute [local irreducible] freshB newsOf
/-- The nodes of which a book has a suspicion. -/
def suspOf (L : List Nt) : BitVec 128 := L.foldl (fun s x => if x.kind = 2 then withV s x.of_ else s) 0#128
theorem suspOf_snoc (L : List Nt) (x : Nt) : suspOf (L ++ [x]) = if x.kind = 2 then withV (suspOf L) x.of_ else suspOf L := by
  unfold suspOf; rw [List.foldl_append]; rfl
theorem suspOf_nil : suspOf [] = 0#128 := rfl
attribute [local irreducible] suspOf withV withE Ear.wd Ear.one Ear.clean
end Go.Proofs.Ytklfkfnckdeifaa
