/-
  Sets as words: how many, of unions and meets.
-/
import Derived.Test.YtfkgllbooopfdaaMathB
namespace Go.Proofs.Ytfkgllbooopfdaa
set_option linter.unusedSimpArgs false
set_option linter.unusedVariables false
open Go.RowKit
namespace Ear
theorem countP_or_and (p q : Nat → Bool) : ∀ l : List Nat, l.countP (fun i => p i || q i) + l.countP (fun i => p i && q i) = l.countP p + l.countP q
  | [] => rfl
  | x :: l => by
    have := countP_or_and p q l
    simp only [List.countP_cons]
    cases p x <;> cases q x <;> simp <;> omega
theorem cnt_or_and (n : Nat) (p q : Nat → Bool) : cnt n (fun i => p i || q i) + cnt n (fun i => p i && q i) = cnt n p + cnt n q := countP_or_and p q _
theorem clean_clean (v : BitVec 128) : clean (clean v) = clean v := by unfold clean; rw [BitVec.and_assoc, BitVec.and_self]
theorem cnt_union_meet (a b : BitVec 128) : cnt128 (clean (a ||| b)) + cnt128 (clean (a &&& b)) = cnt128 (clean a) + cnt128 (clean b) := by
  unfold cnt128
  rw [← cnt_or_and 128 (clean a).getLsbD (clean b).getLsbD]
  congr 1
  · apply cnt_congr; intro i hi; simp only [clean, BitVec.getLsbD_and, BitVec.getLsbD_or]; cases a.getLsbD i <;> cases b.getLsbD i <;> cases M100.getLsbD i <;> rfl
  · apply cnt_congr; intro i hi; simp only [clean, BitVec.getLsbD_and, BitVec.getLsbD_or]; cases a.getLsbD i <;> cases b.getLsbD i <;> cases M100.getLsbD i <;> rfl
theorem cnt_zero : cnt128 0#128 = 0 := by decide
theorem cnt_le128 (v : BitVec 128) : cnt128 v ≤ 128 := cnt_le 128 _
end Ear
end Go.Proofs.Ytfkgllbooopfdaa
