/-
  Plain facts about how many bits a set has.
-/
import Derived.Test.YtfkgllbooopfdaaMath
import Derived.Lib.BitFns
import Derived.Lib.Tables
namespace Go.Proofs.Ytfkgllbooopfdaa
set_option linter.unusedSimpArgs false
set_option linter.unusedVariables false
open Go.RowKit
namespace Ear
theorem bits_and_255 (x : Int) (h0 : 0 ≤ x) (h1 : x < 4294967296) : Go.bits .and .u32 x 255 = x % 256 := by
  have e : x = ((BitVec.ofNat 32 x.toNat).toNat : Int) := by rw [BitVec.toNat_ofNat, Nat.mod_eq_of_lt (by omega)]; omega
  have h := bits_and (BitVec.ofNat 32 x.toNat) 255#32
  rw [← e] at h
  have o : ((255#32).toNat : Int) = 255 := rfl
  rw [o] at h
  rw [h, BitVec.toNat_and]
  have : (255#32).toNat = 2 ^ 8 - 1 := rfl
  rw [this, Nat.and_two_pow_sub_one_eq_mod, BitVec.toNat_ofNat, Nat.mod_eq_of_lt (show x.toNat < 2 ^ 32 by omega)]
  omega

/-- How many of the numbers below n have it. -/
def cnt (n : Nat) (p : Nat → Bool) : Nat := (List.range n).countP p
theorem cnt_add (m n : Nat) (p : Nat → Bool) : cnt (m + n) p = cnt m p + cnt n (fun i => p (m + i)) := by
  unfold cnt
  rw [List.range_add, List.countP_append, List.countP_map]
  rfl
theorem cnt_congr (n : Nat) {p q : Nat → Bool} (h : ∀ i, i < n → p i = q i) : cnt n p = cnt n q := by
  unfold cnt
  exact List.countP_congr (fun i hi => by rw [h i (List.mem_range.1 hi)])
theorem cnt_le (n : Nat) (p : Nat → Bool) : cnt n p ≤ n := by
  have := List.countP_le_length (p := p) (l := List.range n)
  rw [List.length_range] at this
  exact this
theorem pop8_cnt : ∀ n : Fin 256, Lib.pop8 (n.val : Int) = ((cnt 8 (fun i => n.val.testBit i) : Nat) : Int) := by decide +kernel

/-- How many bits the word k of a set has. -/
def cw (v : BitVec 128) (k : Nat) : Nat := cnt 32 (fun i => v.getLsbD (32 * k + i))
/-- How many bits a set has. -/
def cnt128 (v : BitVec 128) : Nat := cnt 128 v.getLsbD
theorem cnt_four (p : Nat → Bool) : cnt 128 p = cnt 32 (fun i => p (32 * 0 + i)) + cnt 32 (fun i => p (32 * 1 + i)) + cnt 32 (fun i => p (32 * 2 + i)) + cnt 32 (fun i => p (32 * 3 + i)) := by
  rw [show (128 : Nat) = 32 + (32 + (32 + 32)) from rfl, cnt_add, cnt_add, cnt_add]
  have e0 : cnt 32 p = cnt 32 (fun i => p (32 * 0 + i)) := cnt_congr 32 (fun i _ => by rw [show 32 * 0 + i = i by omega])
  have e1 : cnt 32 (fun i => p (32 + (32 + i))) = cnt 32 (fun i => p (32 * 2 + i)) := cnt_congr 32 (fun i _ => by rw [show 32 + (32 + i) = 32 * 2 + i by omega])
  have e2 : cnt 32 (fun i => p (32 + (32 + (32 + i)))) = cnt 32 (fun i => p (32 * 3 + i)) := cnt_congr 32 (fun i _ => by rw [show 32 + (32 + (32 + i)) = 32 * 3 + i by omega])
  have e3 : cnt 32 (fun i => p (32 + i)) = cnt 32 (fun i => p (32 * 1 + i)) := cnt_congr 32 (fun i _ => by rw [show 32 + i = 32 * 1 + i by omega])
  rw [e0, e1, e2, e3]
  omega
theorem cnt128_words (v : BitVec 128) : cnt128 v = cw v 0 + cw v 1 + cw v 2 + cw v 3 := cnt_four v.getLsbD

theorem pop8_byte (x j : Nat) : Lib.pop8 (((x / 2 ^ (8 * j) % 256 : Nat)) : Int) = ((cnt 8 (fun i => x.testBit (8 * j + i)) : Nat) : Int) := by
  have h := pop8_cnt ⟨x / 2 ^ (8 * j) % 256, Nat.mod_lt _ (by omega)⟩
  simp only at h
  rw [h]
  refine congrArg Nat.cast (cnt_congr 8 fun i hi => ?_)
  rw [show (256 : Nat) = 2 ^ 8 from rfl, Nat.testBit_mod_two_pow, Nat.testBit_div_two_pow]
  simp [hi, Nat.add_comm]

/-- The sum that OnesCount32 makes. -/
theorem pop32 (v : BitVec 128) (k : Nat) :
    (Lib.pop8 (wd v k / 16777216) + Lib.pop8 (wd v k / 65536 % 256) + Lib.pop8 (wd v k / 256 % 256) + Lib.pop8 (wd v k % 256)) % 256 = ((cw v k : Nat) : Int) := by
  have hx : ∃ x : Nat, wd v k = (x : Int) ∧ x < 4294967296 ∧ ∀ i, i < 32 → x.testBit i = v.getLsbD (32 * k + i) := by
    refine ⟨(v.extractLsb' (32 * k) 32).toNat, rfl, (v.extractLsb' (32 * k) 32).isLt, fun i hi => ?_⟩
    rw [BitVec.testBit_toNat, BitVec.getLsbD_extractLsb']
    simp [hi]
  obtain ⟨x, hw, hlt, hb⟩ := hx
  rw [hw]
  have e3 : ((x : Int) / 16777216) = ((x / 2 ^ (8 * 3) % 256 : Nat) : Int) := by simp only [Nat.reduceMul, Nat.reducePow]; omega
  have e2 : ((x : Int) / 65536 % 256) = ((x / 2 ^ (8 * 2) % 256 : Nat) : Int) := by simp only [Nat.reduceMul, Nat.reducePow]; omega
  have e1 : ((x : Int) / 256 % 256) = ((x / 2 ^ (8 * 1) % 256 : Nat) : Int) := by simp only [Nat.reduceMul, Nat.reducePow]; omega
  have e0 : ((x : Int) % 256) = ((x / 2 ^ (8 * 0) % 256 : Nat) : Int) := by simp only [Nat.mul_zero, Nat.pow_zero]; omega
  rw [e3, e2, e1, e0, pop8_byte, pop8_byte, pop8_byte, pop8_byte]
  have hc : cw v k = cnt 8 (fun i => x.testBit (8 * 0 + i)) + (cnt 8 (fun i => x.testBit (8 * 1 + i)) + (cnt 8 (fun i => x.testBit (8 * 2 + i)) + cnt 8 (fun i => x.testBit (8 * 3 + i)))) := by
    unfold cw
    rw [show (32 : Nat) = 8 + (8 + (8 + 8)) from rfl, cnt_add, cnt_add, cnt_add]
    congr 1
    · exact cnt_congr 8 fun i hi => by rw [← hb _ (by omega)]; simp
    · congr 1
      · exact cnt_congr 8 fun i hi => by rw [← hb _ (by omega)]
      · congr 1
        · exact cnt_congr 8 fun i hi => by rw [← hb _ (by omega)]; rw [show 8 + (8 + i) = 8 * 2 + i by omega]
        · exact cnt_congr 8 fun i hi => by rw [← hb _ (by omega)]; rw [show 8 + (8 + (8 + i)) = 8 * 3 + i by omega]
  rw [hc]
  have b0 := cnt_le 8 (fun i => x.testBit (8 * 0 + i))
  have b1 := cnt_le 8 (fun i => x.testBit (8 * 1 + i))
  have b2 := cnt_le 8 (fun i => x.testBit (8 * 2 + i))
  have b3 := cnt_le 8 (fun i => x.testBit (8 * 3 + i))
  omega
end Ear
end Go.Proofs.Ytfkgllbooopfdaa
