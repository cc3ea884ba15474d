/-
  What the calls of package idset come to, more.
-/
import Derived.Test.YtfkgllbooopfdaaSets
import Derived.WalkKit
import Derived.WalkSpells
import Derived.WalkLawsBesides
import Derived.Handy
import Derived.Lib.Hide
namespace Go.Proofs.Ytfkgllbooopfdaa
set_option linter.unusedSimpArgs false
set_option linter.unusedVariables false
open Go.RowKit
attribute [local go_sem] eqSet
set_option maxHeartbeats 1000000 in
theorem upTo_calls (n : Int) (h0 : 0 ≤ n) (h1 : n ≤ 100) (w : World) : Calls Try.prog 49 #[.int .i64 n] w fun e w' => e = .returned (.agg #[.int .u32 (Ear.wd (Ear.full n.toNat) 0), .int .u32 (Ear.wd (Ear.full n.toNat) 1), .int .u32 (Ear.wd (Ear.full n.toNat) 2), .int .u32 (Ear.wd (Ear.full n.toNat) 3)]) ∧ Below w.heap.size w w' := by
  go_enter Try.func49, Try.ntmps49
  go_wp2
  go_rounds 5
  all_goals
    refine bodyPost_ret (v := .agg #[.int .u32 (Ear.wd (Ear.full n.toNat) 0), .int .u32 (Ear.wd (Ear.full n.toNat) 1), .int .u32 (Ear.wd (Ear.full n.toNat) 2), .int .u32 (Ear.wd (Ear.full n.toNat) 3)]) (by simp [results, Try.results49, go_sem]; refine ⟨?_, ?_, ?_, ?_⟩ <;> symm <;> first | exact (Ear.full_hi _ _ (by omega) (by omega)) | exact (Ear.full_lo _ _ (by omega) (by omega)) | exact (Ear.full_mid _ _ _ (by omega) (by omega) (by omega))) rfl ⟨rfl, ?_⟩
    go_grown

set_option maxRecDepth 100000 in
set_option maxHeartbeats 1000000 in
theorem Clean_calls (v : BitVec 128) (w : World) : Calls Try.prog 44 #[.agg #[.int .u32 (Ear.wd (v) 0), .int .u32 (Ear.wd (v) 1), .int .u32 (Ear.wd (v) 2), .int .u32 (Ear.wd (v) 3)]] w fun e w' => e = .returned (.agg #[.int .u32 (Ear.wd (Ear.clean v) 0), .int .u32 (Ear.wd (Ear.clean v) 1), .int .u32 (Ear.wd (Ear.clean v) 2), .int .u32 (Ear.wd (Ear.clean v) 3)]) ∧ Below w.heap.size w w' := by
  go_enter Try.func44, Try.ntmps44
  go_wp2
  refine Ear.Pl.wp_region_qb 3 (by kernel_rfl) (by kernel_rfl) (fun C hC1 hC2 => ?_); simp only [List.take_succ_cons, List.take_zero, List.drop_succ_cons, List.drop_zero]
  (iterate 1 (refine Ear.Pl.wpQ_run (by rfl) ?_; apply Exists.intro; refine ⟨fun K Q hK w' hw' => ?_, ?_⟩; (focus (obtain ⟨hc', hf'⟩ := Ear.bcell (hC1.out w' hw'); simp only [Act.put, List.setIfInBounds_toArray, List.set_cons_succ, List.set_cons_zero] at hK; go_wp2; exact hw')); simp only [Act.put, List.setIfInBounds_toArray, List.set_cons_succ, List.set_cons_zero]))
  refine Ear.Pl.wpQ_run (by rfl) ?_; apply Exists.intro; refine ⟨fun K Q hK w' hw' => ?_, ?_⟩; (focus (simp only [Act.put, List.setIfInBounds_toArray, List.set_cons_succ, List.set_cons_zero] at hK; go_wp2_with (refine (upTo_calls 100 (by omega) (by omega) _).mono ?_; rintro e w'' ⟨rfl, hb''⟩); exact hC2.out _ _ hw' hb'')); simp only [Act.put, List.setIfInBounds_toArray, List.set_cons_succ, List.set_cons_zero]
  refine Ear.Pl.wpQ_run (by rfl) ?_; apply Exists.intro; refine ⟨fun K Q hK w' hw' => ?_, ?_⟩; (focus (simp only [Act.put, List.setIfInBounds_toArray, List.set_cons_succ, List.set_cons_zero] at hK; go_wp2_with (refine (each_clean v (Ear.full 100) _).mono ?_; rintro e w'' ⟨rfl, hb''⟩); exact hC2.out _ _ hw' hb'')); simp only [Act.put, List.setIfInBounds_toArray, List.set_cons_succ, List.set_cons_zero]
  refine Ear.Pl.wpQ_nil ?_
  intro w1 hb1
  have hB : Below w.heap.size w w1 := by
    refine Below.trans ?_ (hb1.mono (by simp; omega))
    go_grown
  obtain ⟨hc1, hf1⟩ := Ear.bcell hb1
  clear hC1 hC2 hb1
  go_wp2
  refine bodyPost_ret (v := .agg #[.int .u32 (Ear.wd (Ear.clean v) 0), .int .u32 (Ear.wd (Ear.clean v) 1), .int .u32 (Ear.wd (Ear.clean v) 2), .int .u32 (Ear.wd (Ear.clean v) 3)]) (by simp [results, Try.results44, go_sem, hc1, Ear.clean_eq]) rfl ⟨rfl, ?_⟩
  go_grown
end Go.Proofs.Ytfkgllbooopfdaa
