/-
  What the law of the order of sets comes to: the cases put together.
-/
import Derived.Test.YtlhmmjoemdckpaaOrder
namespace Go.Proofs.Ytlhmmjoemdckpaa
set_option linter.unusedSimpArgs false
set_option linter.unusedVariables false
open Go.RowKit

theorem sub_union {a b : BitVec 128} (h : Ear.clean (a &&& ~~~b) = 0#128) : Ear.clean (a ||| b) = Ear.clean b := by
  apply BitVec.eq_of_getLsbD_eq
  intro i hi
  have := congrArg (fun v => BitVec.getLsbD v i) h
  simp only [Ear.clean, BitVec.getLsbD_and, BitVec.getLsbD_or, BitVec.getLsbD_not, BitVec.getLsbD_zero, hi, decide_true, Bool.true_and] at this ⊢
  revert this
  cases a.getLsbD i <;> cases b.getLsbD i <;> cases Ear.M100.getLsbD i <;> simp
theorem union_sub {a b : BitVec 128} (h : Ear.clean (a ||| b) = Ear.clean b) : Ear.clean (a &&& ~~~b) = 0#128 := by
  apply BitVec.eq_of_getLsbD_eq
  intro i hi
  have := congrArg (fun v => BitVec.getLsbD v i) h
  simp only [Ear.clean, BitVec.getLsbD_and, BitVec.getLsbD_or, BitVec.getLsbD_not, BitVec.getLsbD_zero, hi, decide_true, Bool.true_and] at this ⊢
  revert this
  cases a.getLsbD i <;> cases b.getLsbD i <;> cases Ear.M100.getLsbD i <;> simp
theorem clean_or (a b : BitVec 128) : Ear.clean (a ||| b) = Ear.clean a ||| Ear.clean b := by
  (apply BitVec.eq_of_getLsbD_eq; intro i hi; simp only [Ear.clean, BitVec.getLsbD_and, BitVec.getLsbD_or, BitVec.getLsbD_not, BitVec.getLsbD_zero, hi, decide_true, Bool.true_and]; cases a.getLsbD i <;> cases b.getLsbD i <;>  cases Ear.M100.getLsbD i <;> rfl)
theorem sub_le {a b : BitVec 128} (h : Ear.clean (a &&& ~~~b) = 0#128) : (Ear.clean a).toNat ≤ (Ear.clean b).toNat := by
  have h1 := sub_union h
  rw [clean_or] at h1
  rw [← h1, BitVec.toNat_or]
  exact Nat.left_le_or

theorem SetOrder_calls (a b c : BitVec 128) (w : World) : Calls Try.prog 8 #[.agg #[.int .u32 (Ear.wd (a) 0), .int .u32 (Ear.wd (a) 1), .int .u32 (Ear.wd (a) 2), .int .u32 (Ear.wd (a) 3)], .agg #[.int .u32 (Ear.wd (b) 0), .int .u32 (Ear.wd (b) 1), .int .u32 (Ear.wd (b) 2), .int .u32 (Ear.wd (b) 3)], .agg #[.int .u32 (Ear.wd (c) 0), .int .u32 (Ear.wd (c) 1), .int .u32 (Ear.wd (c) 2), .int .u32 (Ear.wd (c) 3)]] w fun e w' => e = .returned (.bool true) ∧ Below w.heap.size w w' := by
  have lt3 := Nat.lt_trichotomy (Ear.clean a).toNat (Ear.clean b).toNat
  have HY : Ear.ordI (Ear.clean b) (Ear.clean c) < 0 ∨ (0 ≤ Ear.ordI (Ear.clean b) (Ear.clean c) ∧ (Ear.clean c).toNat ≤ (Ear.clean b).toNat) := by
    unfold Ear.ordI; split
    · left; decide
    · right; exact ⟨by split <;> decide, by omega⟩
  by_cases hs : Ear.clean (a &&& ~~~b) = 0#128
  · have hle := sub_le hs
    refine SetOrder_yes a b c _ _ _ (Ear.ordI (Ear.clean b) (Ear.clean a)) _ _ w rfl rfl rfl rfl (by show decide _ = true; simpa using hs) (sub_union hs) rfl rfl ?_
    rcases lt3 with h | h | h
    · exact .inl ⟨Ear.ordI_lt (by omega), Ear.ordI_gt (by omega), fun he => by rw [he] at h; omega⟩
    · have he : Ear.clean a = Ear.clean b := BitVec.eq_of_toNat_eq h
      rcases HY with hy | ⟨hy, hle⟩
      · exact .inr (.inl ⟨Ear.ordI_eq (by omega), Ear.ordI_eq (by omega), he, hy⟩)
      · exact .inr (.inr ⟨Ear.ordI_eq (by omega), Ear.ordI_eq (by omega), he, hy, by unfold Ear.ordI; split; omega; split <;> decide⟩)
    · omega
  · have hnu : ¬ Ear.clean (a ||| b) = Ear.clean b := fun h => hs (union_sub h)
    have hne : ¬ Ear.clean a = Ear.clean b := fun h => hs (by
      apply union_sub; rw [clean_or, h, BitVec.or_self])
    refine SetOrder_no a b c _ _ _ _ (Ear.ordI (Ear.clean b) (Ear.clean a)) _ _ w rfl rfl rfl rfl (by show decide _ = false; simpa using hs) rfl rfl rfl hne hnu ?_
    rcases lt3 with h | h | h
    · exact .inl ⟨Ear.ordI_lt (by omega), Ear.ordI_gt (by omega)⟩
    · exact absurd (BitVec.eq_of_toNat_eq h) hne
    · rcases HY with hy | ⟨hy, hle⟩
      · exact .inr (.inl ⟨Ear.ordI_gt (by omega), Ear.ordI_lt (by omega), hy⟩)
      · exact .inr (.inr ⟨Ear.ordI_gt (by omega), Ear.ordI_lt (by omega), hy, by rw [Ear.ordI_gt (by omega)]; decide⟩)
end Go.Proofs.Ytlhmmjoemdckpaa
