/-
  Contracts of the calls on single ids, for whatever id.
-/
import Derived.Test.YtklfkfnckdeifaaRefE
import Derived.Test.YtklfkfnckdeifaaEq
import Derived.WalkKit
namespace Go.Proofs.Ytklfkfnckdeifaa
set_option linter.unusedSimpArgs false
set_option linter.unusedVariables false
open Go.RowKit
attribute [local irreducible] Ear.wd Ear.one Ear.clean
def withV (v : BitVec 128) (i : Int) : BitVec 128 := if 0 ≤ i ∧ i < 100 then Ear.clean v ||| Ear.one i.toNat else 0#128
def withE (i : Int) : Int := if 0 ≤ i ∧ i < 100 then 0 else 30
def withoutV (v : BitVec 128) (i : Int) : BitVec 128 := if 0 ≤ i ∧ i < 100 then Ear.clean v &&& ~~~(Ear.one i.toNat) else Ear.clean v
def hasV (v : BitVec 128) (i : Int) : Bool := if 0 ≤ i ∧ i < 100 then v.getLsbD i.toNat else false
theorem RWith_val (v : BitVec 128) (i : Int) (w : World) : Calls Try.prog 65 #[.agg #[.int .u32 (Ear.wd (v) 0), .int .u32 (Ear.wd (v) 1), .int .u32 (Ear.wd (v) 2), .int .u32 (Ear.wd (v) 3)], .int .i64 i] w fun e w' => e = .returned (.tuple #[.agg #[.int .u32 (Ear.wd (withV v i) 0), .int .u32 (Ear.wd (withV v i) 1), .int .u32 (Ear.wd (withV v i) 2), .int .u32 (Ear.wd (withV v i) 3)], .int .i64 (withE i)]) ∧ Below w.heap.size w w' := by
  unfold withV withE
  by_cases h : 0 ≤ i ∧ i < 100
  · obtain ⟨k, rfl⟩ := Int.eq_ofNat_of_zero_le h.1
    simp only [if_pos h, Int.toNat_natCast]; exact RWith_yes v k (by omega) w
  · simp only [if_neg h]; exact RWith_no v i (by omega) w
theorem Has_val (v : BitVec 128) (i : Int) (w : World) : Calls Try.prog 75 #[.agg #[.int .u32 (Ear.wd (v) 0), .int .u32 (Ear.wd (v) 1), .int .u32 (Ear.wd (v) 2), .int .u32 (Ear.wd (v) 3)], .int .i64 i] w fun e w' => e = .returned (.bool (hasV v i)) ∧ Below w.heap.size w w' := by
  unfold hasV
  by_cases h : 0 ≤ i ∧ i < 100
  · simp only [if_pos h]; exact Has_yes v i h.1 h.2 w
  · simp only [if_neg h]; exact Has_no v i (by omega) w
theorem RHas_val (v : BitVec 128) (i : Int) (w : World) : Calls Try.prog 41 #[.agg #[.int .u32 (Ear.wd (v) 0), .int .u32 (Ear.wd (v) 1), .int .u32 (Ear.wd (v) 2), .int .u32 (Ear.wd (v) 3)], .int .i64 i] w fun e w' => e = .returned (.bool (hasV v i)) ∧ Below w.heap.size w w' := by
  unfold hasV
  by_cases h : 0 ≤ i ∧ i < 100
  · obtain ⟨k, rfl⟩ := Int.eq_ofNat_of_zero_le h.1
    simp only [if_pos h, Int.toNat_natCast]; exact RHas_yes v k (by omega) w
  · simp only [if_neg h]; exact RHas_no v i (by omega) w

end Go.Proofs.Ytklfkfnckdeifaa
