/-
  Contracts of the idset functions that take the result by a fact.
-/
import Derived.Test.YtfkgllbooopfdaaSetsF
import Derived.Test.YtfkgllbooopfdaaSetsH
import Derived.Test.YtfkgllbooopfdaaAlive
import Derived.Test.YtfkgllbooopfdaaLibA
import Derived.Test.YtfkgllbooopfdaaMathC
import Derived.WalkKit
namespace Go.Proofs.Ytfkgllbooopfdaa
set_option linter.unusedSimpArgs false
set_option linter.unusedVariables false
open Go.RowKit

theorem Count_eq {a : BitVec 128} {n : Nat} (h : Ear.cnt128 (Ear.clean a) = n) (w : World) : Calls Try.prog 19 #[.agg #[.int .u32 (Ear.wd (a) 0), .int .u32 (Ear.wd (a) 1), .int .u32 (Ear.wd (a) 2), .int .u32 (Ear.wd (a) 3)]] w fun e w' => e = .returned (.int .i64 (n : Int)) ∧ Below w.heap.size w w' := by subst h; exact Count_calls a w
theorem eqSetV (x y : BitVec 128) (w : World) :
    Sem.run Try.prog (Op.equalIn 10000 35 (.agg #[.int .u32 (Ear.wd (x) 0), .int .u32 (Ear.wd (x) 1), .int .u32 (Ear.wd (x) 2), .int .u32 (Ear.wd (x) 3)]) (.agg #[.int .u32 (Ear.wd (y) 0), .int .u32 (Ear.wd (y) 1), .int .u32 (Ear.wd (y) 2), .int .u32 (Ear.wd (y) 3)])) w = .ok (decide (x = y)) w := by
  rw [eqSet, Ear.beq_words]
theorem Clean_eq {a v : BitVec 128} (h : Ear.clean a = v) (w : World) : Calls Try.prog 44 #[.agg #[.int .u32 (Ear.wd (a) 0), .int .u32 (Ear.wd (a) 1), .int .u32 (Ear.wd (a) 2), .int .u32 (Ear.wd (a) 3)]] w fun e w' => e = .returned (.agg #[.int .u32 (Ear.wd (v) 0), .int .u32 (Ear.wd (v) 1), .int .u32 (Ear.wd (v) 2), .int .u32 (Ear.wd (v) 3)]) ∧ Below w.heap.size w w' := by subst h; exact Clean_calls a w
theorem Has_eq {v : BitVec 128} {i : Nat} {b : Bool} (h : (v.getLsbD i && decide (i < 100)) = b) (w : World) : Calls Try.prog 21 #[.agg #[.int .u32 (Ear.wd (v) 0), .int .u32 (Ear.wd (v) 1), .int .u32 (Ear.wd (v) 2), .int .u32 (Ear.wd (v) 3)], .int .i64 (i : Int)] w fun e w' => e = .returned (.bool b) ∧ Below w.heap.size w w' := by
  subst h
  by_cases hi : i < 100
  · refine (Has_yes v (i : Int) (by omega) (by omega) w).mono ?_
    rintro e w' ⟨rfl, hb⟩
    exact ⟨by simp [hi], hb⟩
  · refine (Has_no v (i : Int) (by omega) w).mono ?_
    rintro e w' ⟨rfl, hb⟩
    exact ⟨by simp [hi], hb⟩
end Go.Proofs.Ytfkgllbooopfdaa
