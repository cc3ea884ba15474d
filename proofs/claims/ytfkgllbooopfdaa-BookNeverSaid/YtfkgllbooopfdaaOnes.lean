/-
  What bits.OnesCount32 comes to.
-/
import Derived.Test.YtfkgllbooopfdaaProg
import Derived.Test.YtfkgllbooopfdaaMathB
import Derived.Test.YtfkgllbooopfdaaLib
import Derived.Lib.BitFns
import Derived.Lib.Tables
import Derived.WalkKit
import Derived.WalkSpells
import Derived.WalkLawsBesides
import Derived.Handy
import Derived.Lib.Hide
namespace Go.Proofs.Ytfkgllbooopfdaa
set_option linter.unusedSimpArgs false
set_option linter.unusedVariables false
open Go.RowKit


set_option maxRecDepth 100000 in
set_option maxHeartbeats 1000000 in
theorem OnesCount_calls (v : BitVec 128) (k : Nat) (w : World) : Calls Try.prog 45 #[.int .u32 (Ear.wd v k)] w fun e w' => e = .returned (.int .i64 ((Ear.cw v k : Nat) : Int)) ∧ Below w.heap.size w w' := by
  have HP := Lib.hid (Ear.pop32 v k)
  have h0 := Ear.wd_lo v k
  have h1 := Ear.wd_hi v k
  generalize Ear.wd v k = x at *
  have q24 : 0 ≤ x / 16777216 ∧ x / 16777216 ≤ 255 := by omega
  obtain ⟨q24a, q24b⟩ := q24
  have q16 := Ear.bits_and_255 (x / 65536) (by omega) (by omega)
  have q8 := Ear.bits_and_255 (x / 256) (by omega) (by omega)
  have q0 := Ear.bits_and_255 x h0 h1
  clear h1
  go_enter Try.func45, Try.ntmps45
  go_wp2
  refine Ear.Pl.wp_region_qs 18 (by kernel_rfl) (by kernel_rfl) ?_; simp only [List.take_succ_cons, List.take_zero, List.drop_succ_cons, List.drop_zero]
  (iterate 18 (refine Ear.Pl.wpQ_run (by rfl) ?_; apply Exists.intro; refine ⟨fun K Q hK w' hw' => ?_, ?_⟩; (focus (subst hw'; simp only [Act.put, List.setIfInBounds_toArray, List.set_cons_succ, List.set_cons_zero] at hK; go_wp2; try rfl)); simp only [Act.put, List.setIfInBounds_toArray, List.set_cons_succ, List.set_cons_zero]))
  refine Ear.Pl.wpQ_nil ?_
  rintro w' rfl
  go_wp2
  go_ret
  exact ⟨by rw [← HP.out]; rfl, by go_grown⟩
end Go.Proofs.Ytfkgllbooopfdaa
