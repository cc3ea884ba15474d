/-
  What Clean, Has, With, Without of the document's answer come to.
-/
import Derived.Test.YtfkgllbooopfdaaRefB
import Derived.Deep.WholeRow
import Derived.WalkKit
import Derived.LoopTactic
import Derived.WalkSpells
import Derived.WalkLawsBesides
import Derived.Handy
import Derived.Lib.Hide
import Derived.Deep.Cut
namespace Go.Proofs.Ytfkgllbooopfdaa
set_option linter.unusedSimpArgs false
set_option linter.unusedVariables false
open Go.RowKit
attribute [local go_sem] rowL_len
attribute [local irreducible] Ear.wd Ear.one Ear.clean
namespace Ear
theorem clean_or_one (v : BitVec 128) (k : Nat) (h : k < 100) : clean (v ||| one k) = clean v ||| one k := by
  apply BitVec.eq_of_getLsbD_eq
  intro i hi
  rw [clean_bit, BitVec.getLsbD_or, BitVec.getLsbD_or, clean_bit, one_bit]
  by_cases hik : i = k
  · subst hik; simp [h, hi]
  · simp [hik]
theorem clean_andNot_one (v : BitVec 128) (k : Nat) : clean (v &&& ~~~(one k)) = clean v &&& ~~~(one k) := by
  apply BitVec.eq_of_getLsbD_eq
  intro i hi
  rw [clean_bit, BitVec.getLsbD_and, BitVec.getLsbD_and, clean_bit]
  cases v.getLsbD i <;> cases (~~~(one k)).getLsbD i <;> simp
end Ear
theorem Make_eq {f : Nat → Bool} {v : BitVec 128} (h : ∀ i, i < 100 → f i = v.getLsbD i) (w : World) : Calls Try.prog 57 #[rowV f] w fun e w' => e = .returned (.agg #[.int .u32 (Ear.wd (Ear.clean v) 0), .int .u32 (Ear.wd (Ear.clean v) 1), .int .u32 (Ear.wd (Ear.clean v) 2), .int .u32 (Ear.wd (Ear.clean v) 3)]) ∧ Below w.heap.size w w' := by
  have := Make_calls f w
  rw [Ear.ofF_eq h] at this
  exact this

theorem idx73 (f : Nat → Bool) (k : Nat) (h : k < 100) (w : World) : Sem.run Try.prog (Instr.index 84 (rowV f) (.int .i64 (k : Int))) w = .ok (.bool (f k)) w := by
  have ha : (isAgg 4).run Try.prog w = .ok false w := by
    unfold isAgg
    rw [Sem.run_bind, run_underlying Try.underlying4 w]
    simp
  have hg : (rowL f).toArray[k]? = some (.bool (f k)) := by rw [List.getElem?_toArray]; exact rowL_get f k h
  have hp : (part 4 (rowL f).toArray k).run Try.prog w = .ok (.bool (f k)) w := by
    simp [part, Sem.run_bind, ha, hg]
  have hsz : (sizeOf 4).run Try.prog w = .ok 1 w := by kernel_rfl
  have hlt : (0 : Int) ≤ (k : Int) ∧ (k : Int) < ((100 : Nat) : Int) := by omega
  have hlt' : (k : Int) < 100 := by omega
  simp [Instr.index, Sem.run_bind, asIntOf, run_underlying Try.underlying84, hsz, hlt', hp]
  intro hc; omega

set_option maxRecDepth 100000 in
set_option maxHeartbeats 2000000 in
theorem RWith_no (v : BitVec 128) (i : Int) (h : i < 0 ∨ 100 ≤ i) (w : World) : Calls Try.prog 54 #[.agg #[.int .u32 (Ear.wd (v) 0), .int .u32 (Ear.wd (v) 1), .int .u32 (Ear.wd (v) 2), .int .u32 (Ear.wd (v) 3)], .int .i64 i] w fun e w' => e = .returned (.tuple #[.agg #[.int .u32 (Ear.wd (0#128) 0), .int .u32 (Ear.wd (0#128) 1), .int .u32 (Ear.wd (0#128) 2), .int .u32 (Ear.wd (0#128) 3)], .int .i64 30]) ∧ Below w.heap.size w w' := by
  by_cases hi : i < 0
  all_goals
    go_enter Try.func54, Try.ntmps54
    go_wp2
    refine bodyPost_ret (v := .tuple #[.agg #[.int .u32 (Ear.wd (0#128) 0), .int .u32 (Ear.wd (0#128) 1), .int .u32 (Ear.wd (0#128) 2), .int .u32 (Ear.wd (0#128) 3)], .int .i64 30]) (by simp [results, Try.results54, go_sem, Ear.wd_zero]) rfl ⟨rfl, ?_⟩
    go_grown

end Go.Proofs.Ytfkgllbooopfdaa
