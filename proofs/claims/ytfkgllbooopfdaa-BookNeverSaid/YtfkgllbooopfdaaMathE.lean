/-
  Sets as words: a bit turned, and how many there are.
-/
import Derived.Test.YtfkgllbooopfdaaMathD
namespace Go.Proofs.Ytfkgllbooopfdaa
set_option linter.unusedSimpArgs false
set_option linter.unusedVariables false
open Go.RowKit
namespace Ear
theorem cnt_succ (n : Nat) (p : Nat → Bool) : cnt (n + 1) p = cnt n p + (if p n then 1 else 0) := by
  unfold cnt
  rw [List.range_succ, List.countP_append]
  simp [List.countP_cons]
theorem cnt_flip (i : Nat) {p q : Nat → Bool} (hp : p i = true) (hq : q i = false) (h : ∀ j, j ≠ i → p j = q j) : ∀ n, i < n → cnt n p = cnt n q + 1
  | 0, hi => by omega
  | n + 1, hi => by
    rw [cnt_succ, cnt_succ]
    by_cases hn : n = i
    · subst hn
      rw [cnt_congr n (p := p) (q := q) (fun j hj => h j (by omega)), hp, hq]
      simp
    · rw [cnt_flip i hp hq h n (by omega), h n hn]
      omega
theorem xor_bit (v : BitVec 128) (i j : Nat) (hi : i < 128) : (v ^^^ one i).getLsbD j = (v.getLsbD j ^^ decide (j = i)) := by
  rw [BitVec.getLsbD_xor, one_bit]; simp [hi]
theorem cnt_turn_on (v : BitVec 128) (i : Nat) (hi : i < 100) (hv : v.getLsbD i = false) : cnt128 (clean (v ^^^ one i)) = cnt128 (clean v) + 1 := by
  unfold cnt128
  apply cnt_flip i _ _ _ 128 (by omega)
  · rw [clean_bit, xor_bit v i i (by omega)]; simp [hv, hi]
  · rw [clean_bit, hv]; rfl
  · intro j hj; rw [clean_bit, clean_bit, xor_bit v i j (by omega)]; simp [hj]
theorem cnt_turn_off (v : BitVec 128) (i : Nat) (hi : i < 100) (hv : v.getLsbD i = true) : cnt128 (clean v) = cnt128 (clean (v ^^^ one i)) + 1 := by
  unfold cnt128
  apply cnt_flip i _ _ _ 128 (by omega)
  · rw [clean_bit, hv]; simp [hi]
  · rw [clean_bit, xor_bit v i i (by omega)]; simp [hv]
  · intro j hj; rw [clean_bit, clean_bit, xor_bit v i j (by omega)]; simp [hj]
theorem clean_turn (v : BitVec 128) (i : Nat) (h : 100 ≤ i) (hi : i < 128) : clean (v ^^^ one i) = clean v := by
  apply BitVec.eq_of_getLsbD_eq
  intro j hj
  rw [clean_bit, clean_bit, xor_bit v i j hi]
  by_cases h1 : j < 100
  · have : ¬ j = i := by omega
    simp [this]
  · simp [h1]
end Ear
end Go.Proofs.Ytfkgllbooopfdaa
