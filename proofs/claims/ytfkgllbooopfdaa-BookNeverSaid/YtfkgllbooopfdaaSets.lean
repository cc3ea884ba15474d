/-
  What the calls of package idset come to.
-/
import Derived.Test.YtfkgllbooopfdaaProg
import Derived.Test.YtfkgllbooopfdaaLib
import Derived.Test.YtfkgllbooopfdaaMath
import Derived.WalkKit
import Derived.WalkSpells
import Derived.WalkLawsBesides
import Derived.Handy
import Derived.Lib.Hide
namespace Go.Proofs.Ytfkgllbooopfdaa
set_option linter.unusedSimpArgs false
set_option linter.unusedVariables false
open Go.RowKit

/-- Two sets, held against each other. -/
theorem eqSet (a0 a1 a2 a3 b0 b1 b2 b3 : Int) (w : World) :
    Sem.run Try.prog (Op.equalIn 10000 35 (.agg #[.int .u32 a0, .int .u32 a1, .int .u32 a2, .int .u32 a3]) (.agg #[.int .u32 b0, .int .u32 b1, .int .u32 b2, .int .u32 b3])) w = .ok (a0 == b0 && a1 == b1 && a2 == b2 && a3 == b3) w :=
  Ear.run_equal_set (e := 33) Try.underlying35 Try.underlying33 (by kernel_rfl) a0 a1 a2 a3 b0 b1 b2 b3 w

theorem cleanAnd_calls (a b : Int) (w : World) : Calls Try.prog 55 #[.int .u32 a, .int .u32 b] w fun e w' => e = .returned (.int .u32 (Go.bits .and .u32 a b)) ∧ w' = w := by
  go_enter Try.func55, Try.ntmps55
  go_wp2
  go_ret
  exact ⟨rfl, rfl⟩
theorem withinAnd_calls (a b : Int) (w : World) : Calls Try.prog 50 #[.int .u32 a, .int .u32 b] w fun e w' => e = .returned (.int .u32 (Go.bits .and .u32 a b)) ∧ w' = w := by
  go_enter Try.func50, Try.ntmps50
  go_wp2
  go_ret
  exact ⟨rfl, rfl⟩

theorem isId_yes (a : Int) (h0 : 0 ≤ a) (h1 : a < 100) (w : World) : Calls Try.prog 47 #[.int .i64 a] w fun e w' => e = .returned (.bool true) ∧ w' = w := by
  go_enter Try.func47, Try.ntmps47
  go_wp2
  go_ret
  exact ⟨by rfl, rfl⟩
theorem isId_no (a : Int) (h : a < 0 ∨ 100 ≤ a) (w : World) : Calls Try.prog 47 #[.int .i64 a] w fun e w' => e = .returned (.bool false) ∧ w' = w := by
  go_enter Try.func47, Try.ntmps47
  go_wp2
  · go_ret
    exact ⟨by simp; omega, rfl⟩
  · go_ret
    exact ⟨by rfl, rfl⟩

set_option maxHeartbeats 2000000 in
theorem each_calls (f : Nat) (g : Int → Int → Int) (hcf : ∀ args w, Sem.run Try.prog (callFunc f args) w = .ok (.enter f args) w) (hg : ∀ x y w, Calls Try.prog f #[.int .u32 x, .int .u32 y] w fun e w' => e = .returned (.int .u32 (g x y)) ∧ w' = w)
    (a0 a1 a2 a3 b0 b1 b2 b3 : Int) (w : World) :
    Calls Try.prog 48 #[.agg #[.int .u32 a0, .int .u32 a1, .int .u32 a2, .int .u32 a3], .agg #[.int .u32 b0, .int .u32 b1, .int .u32 b2, .int .u32 b3], .func (.func f) #[] #[]] w
      fun e w' => e = .returned (.agg #[.int .u32 (g a0 b0), .int .u32 (g a1 b1), .int .u32 (g a2 b2), .int .u32 (g a3 b3)]) ∧ Below w.heap.size w w' := by
  have HG := Lib.hid hg
  clear hg
  go_enter Try.func48, Try.ntmps48
  go_wp2
  refine wp_loop_rounds 5 ?_
  iterate 4 (rw [rounds_succ]; go_wp2; refine Ear.Pl.wp_region_qs 9 (by kernel_rfl) (by kernel_rfl) ?_; simp only [List.take_succ_cons, List.take_zero, List.drop_succ_cons, List.drop_zero]; (iterate 8 (refine Ear.Pl.wpQ_run (by rfl) ?_; apply Exists.intro; refine ⟨fun K Q hK w' hw' => ?_, ?_⟩; (focus (subst hw'; simp only [Act.put, List.setIfInBounds_toArray, List.set_cons_succ, List.set_cons_zero] at hK; go_wp2; try rfl)); simp only [Act.put, List.setIfInBounds_toArray, List.set_cons_succ, List.set_cons_zero])); refine Ear.Pl.wpQ_run (by rfl) ?_; apply Exists.intro; refine ⟨fun K Q hK w' hw' => ?_, ?_⟩; (focus (subst hw'; simp only [Act.put, List.setIfInBounds_toArray, List.set_cons_succ, List.set_cons_zero] at hK; go_wp2_with (refine (HG.out _ _ _).mono ?_; rintro e w'' ⟨rfl, rfl⟩); try rfl)); simp only [Act.put, List.setIfInBounds_toArray, List.set_cons_succ, List.set_cons_zero]; refine Ear.Pl.wpQ_nil ?_; rintro w' rfl; go_wp2)
  rw [rounds_succ]
  go_wp2
  refine bodyPost_ret (v := .agg #[.int .u32 (g a0 b0), .int .u32 (g a1 b1), .int .u32 (g a2 b2), .int .u32 (g a3 b3)]) (by simp [results, Try.results48, go_sem]) rfl ⟨rfl, ?_⟩
  go_grown

theorem each_clean (a b : BitVec 128) (w : World) : Calls Try.prog 48 #[.agg #[.int .u32 (Ear.wd (a) 0), .int .u32 (Ear.wd (a) 1), .int .u32 (Ear.wd (a) 2), .int .u32 (Ear.wd (a) 3)], .agg #[.int .u32 (Ear.wd (b) 0), .int .u32 (Ear.wd (b) 1), .int .u32 (Ear.wd (b) 2), .int .u32 (Ear.wd (b) 3)], .func (.func 55) #[] #[]] w fun e w' => e = .returned (.agg #[.int .u32 (Ear.wd (a &&& b) 0), .int .u32 (Ear.wd (a &&& b) 1), .int .u32 (Ear.wd (a &&& b) 2), .int .u32 (Ear.wd (a &&& b) 3)]) ∧ Below w.heap.size w w' := by
  have h := each_calls 55 (Go.bits .and .u32) (fun _ _ => by kernel_rfl) cleanAnd_calls (Ear.wd a 0) (Ear.wd a 1) (Ear.wd a 2) (Ear.wd a 3) (Ear.wd b 0) (Ear.wd b 1) (Ear.wd b 2) (Ear.wd b 3) w
  simpa only [Ear.wd_and] using h
theorem each_within (a b : BitVec 128) (w : World) : Calls Try.prog 48 #[.agg #[.int .u32 (Ear.wd (a) 0), .int .u32 (Ear.wd (a) 1), .int .u32 (Ear.wd (a) 2), .int .u32 (Ear.wd (a) 3)], .agg #[.int .u32 (Ear.wd (b) 0), .int .u32 (Ear.wd (b) 1), .int .u32 (Ear.wd (b) 2), .int .u32 (Ear.wd (b) 3)], .func (.func 50) #[] #[]] w fun e w' => e = .returned (.agg #[.int .u32 (Ear.wd (a &&& b) 0), .int .u32 (Ear.wd (a &&& b) 1), .int .u32 (Ear.wd (a &&& b) 2), .int .u32 (Ear.wd (a &&& b) 3)]) ∧ Below w.heap.size w w' := by
  have h := each_calls 50 (Go.bits .and .u32) (fun _ _ => by kernel_rfl) withinAnd_calls (Ear.wd a 0) (Ear.wd a 1) (Ear.wd a 2) (Ear.wd a 3) (Ear.wd b 0) (Ear.wd b 1) (Ear.wd b 2) (Ear.wd b 3) w
  simpa only [Ear.wd_and] using h
end Go.Proofs.Ytfkgllbooopfdaa
