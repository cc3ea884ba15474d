/-
  Sets as words: one bit put in or turned, by its place; the set of a row.
-/
import Derived.Test.YtfkgllbooopfdaaMathC
namespace Go.Proofs.Ytfkgllbooopfdaa
set_option linter.unusedSimpArgs false
set_option linter.unusedVariables false
open Go.RowKit
namespace Ear
theorem set_or (c : BitVec 128) (k : Nat) (h : k < 128) : List.set ([.int .u32 (wd (c) 0), .int .u32 (wd (c) 1), .int .u32 (wd (c) 2), .int .u32 (wd (c) 3)] : List Value) (k / 32) (.int .u32 (Go.bits .or .u32 (wd c (k / 32)) (2 ^ (k % 32) % 4294967296))) = ([.int .u32 (wd (c ||| one k) 0), .int .u32 (wd (c ||| one k) 1), .int .u32 (wd (c ||| one k) 2), .int .u32 (wd (c ||| one k) 3)] : List Value) := by
  have hcase : k / 32 = 0 ∨ k / 32 = 1 ∨ k / 32 = 2 ∨ k / 32 = 3 := by omega
  rcases hcase with hk | hk | hk | hk
  all_goals
    rw [or_same c k _ h rfl]
    simp only [hk]
    simp only [List.set_cons_zero, List.set_cons_succ]
    first
      | rw [or_other c k 1 (by omega), or_other c k 2 (by omega), or_other c k 3 (by omega)]
      | rw [or_other c k 0 (by omega), or_other c k 2 (by omega), or_other c k 3 (by omega)]
      | rw [or_other c k 0 (by omega), or_other c k 1 (by omega), or_other c k 3 (by omega)]
      | rw [or_other c k 0 (by omega), or_other c k 1 (by omega), or_other c k 2 (by omega)]
theorem set_xor (c : BitVec 128) (k : Nat) (h : k < 128) : List.set ([.int .u32 (wd (c) 0), .int .u32 (wd (c) 1), .int .u32 (wd (c) 2), .int .u32 (wd (c) 3)] : List Value) (k / 32) (.int .u32 (Go.bits .xor .u32 (wd c (k / 32)) (2 ^ (k % 32) % 4294967296))) = ([.int .u32 (wd (c ^^^ one k) 0), .int .u32 (wd (c ^^^ one k) 1), .int .u32 (wd (c ^^^ one k) 2), .int .u32 (wd (c ^^^ one k) 3)] : List Value) := by
  have hcase : k / 32 = 0 ∨ k / 32 = 1 ∨ k / 32 = 2 ∨ k / 32 = 3 := by omega
  rcases hcase with hk | hk | hk | hk
  all_goals
    rw [xor_same c k _ h rfl]
    simp only [hk]
    simp only [List.set_cons_zero, List.set_cons_succ]
    first
      | rw [xor_other c k 1 (by omega), xor_other c k 2 (by omega), xor_other c k 3 (by omega)]
      | rw [xor_other c k 0 (by omega), xor_other c k 2 (by omega), xor_other c k 3 (by omega)]
      | rw [xor_other c k 0 (by omega), xor_other c k 1 (by omega), xor_other c k 3 (by omega)]
      | rw [xor_other c k 0 (by omega), xor_other c k 1 (by omega), xor_other c k 2 (by omega)]
/-- The set of a row's first n places. -/
def ofF (f : Nat → Bool) : Nat → BitVec 128
  | 0 => 0#128
  | n + 1 => if f n then ofF f n ||| one n else ofF f n
theorem ofF_bit (f : Nat → Bool) (i : Nat) : ∀ n, n ≤ 128 → (ofF f n).getLsbD i = (decide (i < n) && f i)
  | 0, _ => by simp [ofF]
  | n + 1, h => by
    have ih := ofF_bit f i n (by omega)
    unfold ofF
    by_cases hf : f n = true
    · rw [if_pos hf, BitVec.getLsbD_or, ih, one_bit]
      by_cases hi : i = n
      · subst hi
        have h1 : i < 128 := by omega
        simp [hf, h1]
      · have e : decide (i < n + 1) = decide (i < n) := by rw [decide_eq_decide]; omega
        simp [hi, e]
    · rw [if_neg hf, ih]
      by_cases hi : i = n
      · subst hi; simp [hf]
      · have e : decide (i < n + 1) = decide (i < n) := by rw [decide_eq_decide]; omega
        rw [e]
theorem ofF_eq {f : Nat → Bool} {v : BitVec 128} (h : ∀ i, i < 100 → f i = v.getLsbD i) : ofF f 100 = clean v := by
  apply BitVec.eq_of_getLsbD_eq
  intro i hi
  rw [ofF_bit f i 100 (by omega), clean_bit]
  by_cases h1 : i < 100
  · simp [h1, h i h1]
  · simp [h1]
end Ear
end Go.Proofs.Ytfkgllbooopfdaa
