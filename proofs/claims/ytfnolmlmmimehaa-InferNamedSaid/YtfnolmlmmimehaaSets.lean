/-
  What the calls of package idset come to.
  What the calls of package idset come to, more.
  What the calls of package idset come to: sets of sets.
  What the calls of package idset come to: tests and single ids.
  What the calls of package idset come to: one id put in or taken out.
  What the calls of package idset come to: the order.
  What bits.OnesCount32 comes to.
  What the calls of package idset come to: how many; lists of ids.
  What the calls of package idset come to: the set of a list.
-/
import Derived.Test.YtfnolmlmmimehaaProg
import Derived.Test.YtfnolmlmmimehaaLib
import Derived.Test.YtfnolmlmmimehaaMath
import Derived.WalkKit
import Derived.WalkSpells
import Derived.WalkLawsBesides
import Derived.Handy
import Derived.Lib.Hide
import Derived.Lib.BitFns
import Derived.Lib.Tables
import Derived.LoopTactic
section
namespace Go.Proofs.Ytfnolmlmmimehaa
set_option linter.unusedSimpArgs false
set_option linter.unusedVariables false
open Go.RowKit

/-- Two sets, held against each other. -/
theorem eqSet (a0 a1 a2 a3 b0 b1 b2 b3 : Int) (w : World) :
    Sem.run Try.prog (Op.equalIn 10000 26 (.agg #[.int .u32 a0, .int .u32 a1, .int .u32 a2, .int .u32 a3]) (.agg #[.int .u32 b0, .int .u32 b1, .int .u32 b2, .int .u32 b3])) w = .ok (a0 == b0 && a1 == b1 && a2 == b2 && a3 == b3) w :=
  Ear.run_equal_set (e := 24) Try.underlying26 Try.underlying24 (by kernel_rfl) a0 a1 a2 a3 b0 b1 b2 b3 w

theorem or_calls (a b : Int) (w : World) : Calls Try.prog 58 #[.int .u32 a, .int .u32 b] w fun e w' => e = .returned (.int .u32 (Go.bits .or .u32 a b)) ∧ w' = w := by
  go_enter Try.func58, Try.ntmps58
  go_wp2
  go_ret
  exact ⟨rfl, rfl⟩
theorem and_calls (a b : Int) (w : World) : Calls Try.prog 64 #[.int .u32 a, .int .u32 b] w fun e w' => e = .returned (.int .u32 (Go.bits .and .u32 a b)) ∧ w' = w := by
  go_enter Try.func64, Try.ntmps64
  go_wp2
  go_ret
  exact ⟨rfl, rfl⟩
theorem andNot_calls (a b : Int) (w : World) : Calls Try.prog 79 #[.int .u32 a, .int .u32 b] w fun e w' => e = .returned (.int .u32 (Go.bits .andNot .u32 a b)) ∧ w' = w := by
  go_enter Try.func79, Try.ntmps79
  go_wp2
  go_ret
  exact ⟨rfl, rfl⟩
theorem cleanAnd_calls (a b : Int) (w : World) : Calls Try.prog 83 #[.int .u32 a, .int .u32 b] w fun e w' => e = .returned (.int .u32 (Go.bits .and .u32 a b)) ∧ w' = w := by
  go_enter Try.func83, Try.ntmps83
  go_wp2
  go_ret
  exact ⟨rfl, rfl⟩
theorem withinAnd_calls (a b : Int) (w : World) : Calls Try.prog 78 #[.int .u32 a, .int .u32 b] w fun e w' => e = .returned (.int .u32 (Go.bits .and .u32 a b)) ∧ w' = w := by
  go_enter Try.func78, Try.ntmps78
  go_wp2
  go_ret
  exact ⟨rfl, rfl⟩

theorem isId_yes (a : Int) (h0 : 0 ≤ a) (h1 : a < 100) (w : World) : Calls Try.prog 59 #[.int .i64 a] w fun e w' => e = .returned (.bool true) ∧ w' = w := by
  go_enter Try.func59, Try.ntmps59
  go_wp2
  go_ret
  exact ⟨by rfl, rfl⟩
theorem isId_no (a : Int) (h : a < 0 ∨ 100 ≤ a) (w : World) : Calls Try.prog 59 #[.int .i64 a] w fun e w' => e = .returned (.bool false) ∧ w' = w := by
  go_enter Try.func59, Try.ntmps59
  go_wp2
  · go_ret
    exact ⟨by simp; omega, rfl⟩
  · go_ret
    exact ⟨by rfl, rfl⟩

set_option maxHeartbeats 2000000 in
theorem each_calls (f : Nat) (g : Int → Int → Int) (hcf : ∀ args w, Sem.run Try.prog (callFunc f args) w = .ok (.enter f args) w) (hg : ∀ x y w, Calls Try.prog f #[.int .u32 x, .int .u32 y] w fun e w' => e = .returned (.int .u32 (g x y)) ∧ w' = w)
    (a0 a1 a2 a3 b0 b1 b2 b3 : Int) (w : World) :
    Calls Try.prog 57 #[.agg #[.int .u32 a0, .int .u32 a1, .int .u32 a2, .int .u32 a3], .agg #[.int .u32 b0, .int .u32 b1, .int .u32 b2, .int .u32 b3], .func (.func f) #[] #[]] w
      fun e w' => e = .returned (.agg #[.int .u32 (g a0 b0), .int .u32 (g a1 b1), .int .u32 (g a2 b2), .int .u32 (g a3 b3)]) ∧ Below w.heap.size w w' := by
  have HG := Lib.hid hg
  clear hg
  go_enter Try.func57, Try.ntmps57
  go_wp2
  refine wp_loop_rounds 5 ?_
  iterate 4 (rw [rounds_succ]; go_wp2; refine Ear.Pl.wp_region_qs 9 (by kernel_rfl) (by kernel_rfl) ?_; simp only [List.take_succ_cons, List.take_zero, List.drop_succ_cons, List.drop_zero]; (iterate 8 (refine Ear.Pl.wpQ_run (by rfl) ?_; apply Exists.intro; refine ⟨fun K Q hK w' hw' => ?_, ?_⟩; (focus (subst hw'; simp only [Act.put, List.setIfInBounds_toArray, List.set_cons_succ, List.set_cons_zero] at hK; go_wp2; try rfl)); simp only [Act.put, List.setIfInBounds_toArray, List.set_cons_succ, List.set_cons_zero])); refine Ear.Pl.wpQ_run (by rfl) ?_; apply Exists.intro; refine ⟨fun K Q hK w' hw' => ?_, ?_⟩; (focus (subst hw'; simp only [Act.put, List.setIfInBounds_toArray, List.set_cons_succ, List.set_cons_zero] at hK; go_wp2_with (refine (HG.out _ _ _).mono ?_; rintro e w'' ⟨rfl, rfl⟩); try rfl)); simp only [Act.put, List.setIfInBounds_toArray, List.set_cons_succ, List.set_cons_zero]; refine Ear.Pl.wpQ_nil ?_; rintro w' rfl; go_wp2)
  rw [rounds_succ]
  go_wp2
  refine bodyPost_ret (v := .agg #[.int .u32 (g a0 b0), .int .u32 (g a1 b1), .int .u32 (g a2 b2), .int .u32 (g a3 b3)]) (by simp [results, Try.results57, go_sem]) rfl ⟨rfl, ?_⟩
  go_grown

theorem each_or (a b : BitVec 128) (w : World) : Calls Try.prog 57 #[.agg #[.int .u32 (Ear.wd (a) 0), .int .u32 (Ear.wd (a) 1), .int .u32 (Ear.wd (a) 2), .int .u32 (Ear.wd (a) 3)], .agg #[.int .u32 (Ear.wd (b) 0), .int .u32 (Ear.wd (b) 1), .int .u32 (Ear.wd (b) 2), .int .u32 (Ear.wd (b) 3)], .func (.func 58) #[] #[]] w fun e w' => e = .returned (.agg #[.int .u32 (Ear.wd (a ||| b) 0), .int .u32 (Ear.wd (a ||| b) 1), .int .u32 (Ear.wd (a ||| b) 2), .int .u32 (Ear.wd (a ||| b) 3)]) ∧ Below w.heap.size w w' := by
  have h := each_calls 58 (Go.bits .or .u32) (fun _ _ => by kernel_rfl) or_calls (Ear.wd a 0) (Ear.wd a 1) (Ear.wd a 2) (Ear.wd a 3) (Ear.wd b 0) (Ear.wd b 1) (Ear.wd b 2) (Ear.wd b 3) w
  simpa only [Ear.wd_or] using h
theorem each_and (a b : BitVec 128) (w : World) : Calls Try.prog 57 #[.agg #[.int .u32 (Ear.wd (a) 0), .int .u32 (Ear.wd (a) 1), .int .u32 (Ear.wd (a) 2), .int .u32 (Ear.wd (a) 3)], .agg #[.int .u32 (Ear.wd (b) 0), .int .u32 (Ear.wd (b) 1), .int .u32 (Ear.wd (b) 2), .int .u32 (Ear.wd (b) 3)], .func (.func 64) #[] #[]] w fun e w' => e = .returned (.agg #[.int .u32 (Ear.wd (a &&& b) 0), .int .u32 (Ear.wd (a &&& b) 1), .int .u32 (Ear.wd (a &&& b) 2), .int .u32 (Ear.wd (a &&& b) 3)]) ∧ Below w.heap.size w w' := by
  have h := each_calls 64 (Go.bits .and .u32) (fun _ _ => by kernel_rfl) and_calls (Ear.wd a 0) (Ear.wd a 1) (Ear.wd a 2) (Ear.wd a 3) (Ear.wd b 0) (Ear.wd b 1) (Ear.wd b 2) (Ear.wd b 3) w
  simpa only [Ear.wd_and] using h
theorem each_clean (a b : BitVec 128) (w : World) : Calls Try.prog 57 #[.agg #[.int .u32 (Ear.wd (a) 0), .int .u32 (Ear.wd (a) 1), .int .u32 (Ear.wd (a) 2), .int .u32 (Ear.wd (a) 3)], .agg #[.int .u32 (Ear.wd (b) 0), .int .u32 (Ear.wd (b) 1), .int .u32 (Ear.wd (b) 2), .int .u32 (Ear.wd (b) 3)], .func (.func 83) #[] #[]] w fun e w' => e = .returned (.agg #[.int .u32 (Ear.wd (a &&& b) 0), .int .u32 (Ear.wd (a &&& b) 1), .int .u32 (Ear.wd (a &&& b) 2), .int .u32 (Ear.wd (a &&& b) 3)]) ∧ Below w.heap.size w w' := by
  have h := each_calls 83 (Go.bits .and .u32) (fun _ _ => by kernel_rfl) cleanAnd_calls (Ear.wd a 0) (Ear.wd a 1) (Ear.wd a 2) (Ear.wd a 3) (Ear.wd b 0) (Ear.wd b 1) (Ear.wd b 2) (Ear.wd b 3) w
  simpa only [Ear.wd_and] using h
theorem each_within (a b : BitVec 128) (w : World) : Calls Try.prog 57 #[.agg #[.int .u32 (Ear.wd (a) 0), .int .u32 (Ear.wd (a) 1), .int .u32 (Ear.wd (a) 2), .int .u32 (Ear.wd (a) 3)], .agg #[.int .u32 (Ear.wd (b) 0), .int .u32 (Ear.wd (b) 1), .int .u32 (Ear.wd (b) 2), .int .u32 (Ear.wd (b) 3)], .func (.func 78) #[] #[]] w fun e w' => e = .returned (.agg #[.int .u32 (Ear.wd (a &&& b) 0), .int .u32 (Ear.wd (a &&& b) 1), .int .u32 (Ear.wd (a &&& b) 2), .int .u32 (Ear.wd (a &&& b) 3)]) ∧ Below w.heap.size w w' := by
  have h := each_calls 78 (Go.bits .and .u32) (fun _ _ => by kernel_rfl) withinAnd_calls (Ear.wd a 0) (Ear.wd a 1) (Ear.wd a 2) (Ear.wd a 3) (Ear.wd b 0) (Ear.wd b 1) (Ear.wd b 2) (Ear.wd b 3) w
  simpa only [Ear.wd_and] using h
theorem each_less (a b : BitVec 128) (w : World) : Calls Try.prog 57 #[.agg #[.int .u32 (Ear.wd (a) 0), .int .u32 (Ear.wd (a) 1), .int .u32 (Ear.wd (a) 2), .int .u32 (Ear.wd (a) 3)], .agg #[.int .u32 (Ear.wd (b) 0), .int .u32 (Ear.wd (b) 1), .int .u32 (Ear.wd (b) 2), .int .u32 (Ear.wd (b) 3)], .func (.func 79) #[] #[]] w fun e w' => e = .returned (.agg #[.int .u32 (Ear.wd (a &&& ~~~b) 0), .int .u32 (Ear.wd (a &&& ~~~b) 1), .int .u32 (Ear.wd (a &&& ~~~b) 2), .int .u32 (Ear.wd (a &&& ~~~b) 3)]) ∧ Below w.heap.size w w' := by
  have h := each_calls 79 (Go.bits .andNot .u32) (fun _ _ => by kernel_rfl) andNot_calls (Ear.wd a 0) (Ear.wd a 1) (Ear.wd a 2) (Ear.wd a 3) (Ear.wd b 0) (Ear.wd b 1) (Ear.wd b 2) (Ear.wd b 3) w
  rw [Ear.wd_andNot _ _ 0 (by omega), Ear.wd_andNot _ _ 1 (by omega), Ear.wd_andNot _ _ 2 (by omega), Ear.wd_andNot _ _ 3 (by omega)] at h
  exact h
end Go.Proofs.Ytfnolmlmmimehaa
end
section
namespace Go.Proofs.Ytfnolmlmmimehaa
set_option linter.unusedSimpArgs false
set_option linter.unusedVariables false
open Go.RowKit
attribute [local go_sem] eqSet
set_option maxHeartbeats 1000000 in
theorem upTo_calls (n : Int) (h0 : 0 ≤ n) (h1 : n ≤ 100) (w : World) : Calls Try.prog 62 #[.int .i64 n] w fun e w' => e = .returned (.agg #[.int .u32 (Ear.wd (Ear.full n.toNat) 0), .int .u32 (Ear.wd (Ear.full n.toNat) 1), .int .u32 (Ear.wd (Ear.full n.toNat) 2), .int .u32 (Ear.wd (Ear.full n.toNat) 3)]) ∧ Below w.heap.size w w' := by
  go_enter Try.func62, Try.ntmps62
  go_wp2
  go_rounds 5
  all_goals
    refine bodyPost_ret (v := .agg #[.int .u32 (Ear.wd (Ear.full n.toNat) 0), .int .u32 (Ear.wd (Ear.full n.toNat) 1), .int .u32 (Ear.wd (Ear.full n.toNat) 2), .int .u32 (Ear.wd (Ear.full n.toNat) 3)]) (by simp [results, Try.results62, go_sem]; refine ⟨?_, ?_, ?_, ?_⟩ <;> symm <;> first | exact (Ear.full_hi _ _ (by omega) (by omega)) | exact (Ear.full_lo _ _ (by omega) (by omega)) | exact (Ear.full_mid _ _ _ (by omega) (by omega) (by omega))) rfl ⟨rfl, ?_⟩
    go_grown

set_option maxRecDepth 100000 in
set_option maxHeartbeats 1000000 in
theorem Clean_calls (v : BitVec 128) (w : World) : Calls Try.prog 56 #[.agg #[.int .u32 (Ear.wd (v) 0), .int .u32 (Ear.wd (v) 1), .int .u32 (Ear.wd (v) 2), .int .u32 (Ear.wd (v) 3)]] w fun e w' => e = .returned (.agg #[.int .u32 (Ear.wd (Ear.clean v) 0), .int .u32 (Ear.wd (Ear.clean v) 1), .int .u32 (Ear.wd (Ear.clean v) 2), .int .u32 (Ear.wd (Ear.clean v) 3)]) ∧ Below w.heap.size w w' := by
  go_enter Try.func56, Try.ntmps56
  go_wp2
  refine Ear.Pl.wp_region_qb 3 (by kernel_rfl) (by kernel_rfl) (fun C hC1 hC2 => ?_); simp only [List.take_succ_cons, List.take_zero, List.drop_succ_cons, List.drop_zero]
  (iterate 1 (refine Ear.Pl.wpQ_run (by rfl) ?_; apply Exists.intro; refine ⟨fun K Q hK w' hw' => ?_, ?_⟩; (focus (obtain ⟨hc', hf'⟩ := Ear.bcell (hC1.out w' hw'); simp only [Act.put, List.setIfInBounds_toArray, List.set_cons_succ, List.set_cons_zero] at hK; go_wp2; exact hw')); simp only [Act.put, List.setIfInBounds_toArray, List.set_cons_succ, List.set_cons_zero]))
  refine Ear.Pl.wpQ_run (by rfl) ?_; apply Exists.intro; refine ⟨fun K Q hK w' hw' => ?_, ?_⟩; (focus (simp only [Act.put, List.setIfInBounds_toArray, List.set_cons_succ, List.set_cons_zero] at hK; go_wp2_with (refine (upTo_calls 100 (by omega) (by omega) _).mono ?_; rintro e w'' ⟨rfl, hb''⟩); exact hC2.out _ _ hw' hb'')); simp only [Act.put, List.setIfInBounds_toArray, List.set_cons_succ, List.set_cons_zero]
  refine Ear.Pl.wpQ_run (by rfl) ?_; apply Exists.intro; refine ⟨fun K Q hK w' hw' => ?_, ?_⟩; (focus (simp only [Act.put, List.setIfInBounds_toArray, List.set_cons_succ, List.set_cons_zero] at hK; go_wp2_with (refine (each_clean v (Ear.full 100) _).mono ?_; rintro e w'' ⟨rfl, hb''⟩); exact hC2.out _ _ hw' hb'')); simp only [Act.put, List.setIfInBounds_toArray, List.set_cons_succ, List.set_cons_zero]
  refine Ear.Pl.wpQ_nil ?_
  intro w1 hb1
  have hB : Below w.heap.size w w1 := by
    refine Below.trans ?_ (hb1.mono (by simp; omega))
    go_grown
  obtain ⟨hc1, hf1⟩ := Ear.bcell hb1
  clear hC1 hC2 hb1
  go_wp2
  refine bodyPost_ret (v := .agg #[.int .u32 (Ear.wd (Ear.clean v) 0), .int .u32 (Ear.wd (Ear.clean v) 1), .int .u32 (Ear.wd (Ear.clean v) 2), .int .u32 (Ear.wd (Ear.clean v) 3)]) (by simp [results, Try.results56, go_sem, hc1, Ear.clean_eq]) rfl ⟨rfl, ?_⟩
  go_grown
end Go.Proofs.Ytfnolmlmmimehaa
end
section
namespace Go.Proofs.Ytfnolmlmmimehaa
set_option linter.unusedSimpArgs false
set_option linter.unusedVariables false
open Go.RowKit
attribute [local go_sem] eqSet
set_option maxRecDepth 100000 in
set_option maxHeartbeats 1000000 in
theorem Union_calls (a b : BitVec 128) (w : World) : Calls Try.prog 21 #[.agg #[.int .u32 (Ear.wd (a) 0), .int .u32 (Ear.wd (a) 1), .int .u32 (Ear.wd (a) 2), .int .u32 (Ear.wd (a) 3)], .agg #[.int .u32 (Ear.wd (b) 0), .int .u32 (Ear.wd (b) 1), .int .u32 (Ear.wd (b) 2), .int .u32 (Ear.wd (b) 3)]] w fun e w' => e = .returned (.agg #[.int .u32 (Ear.wd (Ear.clean (a ||| b)) 0), .int .u32 (Ear.wd (Ear.clean (a ||| b)) 1), .int .u32 (Ear.wd (Ear.clean (a ||| b)) 2), .int .u32 (Ear.wd (Ear.clean (a ||| b)) 3)]) ∧ Below w.heap.size w w' := by
  go_enter Try.func21, Try.ntmps21
  go_wp2_with (first | (go_at_call 57; refine (each_or _ _ _).mono ?_; rintro e w1 ⟨rfl, hb1⟩; obtain ⟨hc1, hf1⟩ := Ear.bcell hb1; have hB1 : Below w.heap.size w w1 := Below.trans (by go_grown) (hb1.mono (by (try simp only [World.size_alloc, World.size_setCell, World.size_drew, setRow_size]); omega)); have hs1 := hB1.size; have hz1_0 : w.heap.size + 1 + 1 < w1.heap.size := (by have hq := hb1.size; (try simp only [World.size_alloc, World.size_setCell, World.size_drew] at hq); omega)) | (go_at_call 56; refine (Clean_calls _ _).mono ?_; rintro e w2 ⟨rfl, hb2⟩; obtain ⟨hc2, hf2⟩ := Ear.bcell hb2; have hB2 : Below w.heap.size w w2 := Below.trans (by go_grown) (hb2.mono (by (try simp only [World.size_alloc, World.size_setCell, World.size_drew, setRow_size]); omega)); have hs2 := hB2.size; have hz2_0 : w.heap.size + 1 + 1 < w2.heap.size := (by have hq := hb2.size; (try simp only [World.size_alloc, World.size_setCell, World.size_drew] at hq); omega)))
  refine bodyPost_ret (v := .agg #[.int .u32 (Ear.wd (Ear.clean (a ||| b)) 0), .int .u32 (Ear.wd (Ear.clean (a ||| b)) 1), .int .u32 (Ear.wd (Ear.clean (a ||| b)) 2), .int .u32 (Ear.wd (Ear.clean (a ||| b)) 3)]) (by simp [results, Try.results21, go_sem, hc1, hc2, hz1_0, hz2_0]) rfl ⟨rfl, ?_⟩
  go_grown

set_option maxRecDepth 100000 in
set_option maxHeartbeats 1000000 in
theorem Meet_calls (a b : BitVec 128) (w : World) : Calls Try.prog 26 #[.agg #[.int .u32 (Ear.wd (a) 0), .int .u32 (Ear.wd (a) 1), .int .u32 (Ear.wd (a) 2), .int .u32 (Ear.wd (a) 3)], .agg #[.int .u32 (Ear.wd (b) 0), .int .u32 (Ear.wd (b) 1), .int .u32 (Ear.wd (b) 2), .int .u32 (Ear.wd (b) 3)]] w fun e w' => e = .returned (.agg #[.int .u32 (Ear.wd (Ear.clean (a &&& b)) 0), .int .u32 (Ear.wd (Ear.clean (a &&& b)) 1), .int .u32 (Ear.wd (Ear.clean (a &&& b)) 2), .int .u32 (Ear.wd (Ear.clean (a &&& b)) 3)]) ∧ Below w.heap.size w w' := by
  go_enter Try.func26, Try.ntmps26
  go_wp2_with (first | (go_at_call 57; refine (each_and _ _ _).mono ?_; rintro e w1 ⟨rfl, hb1⟩; obtain ⟨hc1, hf1⟩ := Ear.bcell hb1; have hB1 : Below w.heap.size w w1 := Below.trans (by go_grown) (hb1.mono (by (try simp only [World.size_alloc, World.size_setCell, World.size_drew, setRow_size]); omega)); have hs1 := hB1.size; have hz1_0 : w.heap.size + 1 + 1 < w1.heap.size := (by have hq := hb1.size; (try simp only [World.size_alloc, World.size_setCell, World.size_drew] at hq); omega)) | (go_at_call 56; refine (Clean_calls _ _).mono ?_; rintro e w2 ⟨rfl, hb2⟩; obtain ⟨hc2, hf2⟩ := Ear.bcell hb2; have hB2 : Below w.heap.size w w2 := Below.trans (by go_grown) (hb2.mono (by (try simp only [World.size_alloc, World.size_setCell, World.size_drew, setRow_size]); omega)); have hs2 := hB2.size; have hz2_0 : w.heap.size + 1 + 1 < w2.heap.size := (by have hq := hb2.size; (try simp only [World.size_alloc, World.size_setCell, World.size_drew] at hq); omega)))
  refine bodyPost_ret (v := .agg #[.int .u32 (Ear.wd (Ear.clean (a &&& b)) 0), .int .u32 (Ear.wd (Ear.clean (a &&& b)) 1), .int .u32 (Ear.wd (Ear.clean (a &&& b)) 2), .int .u32 (Ear.wd (Ear.clean (a &&& b)) 3)]) (by simp [results, Try.results26, go_sem, hc1, hc2, hz1_0, hz2_0]) rfl ⟨rfl, ?_⟩
  go_grown

set_option maxRecDepth 100000 in
set_option maxHeartbeats 1000000 in
theorem Less_calls (a b : BitVec 128) (w : World) : Calls Try.prog 50 #[.agg #[.int .u32 (Ear.wd (a) 0), .int .u32 (Ear.wd (a) 1), .int .u32 (Ear.wd (a) 2), .int .u32 (Ear.wd (a) 3)], .agg #[.int .u32 (Ear.wd (b) 0), .int .u32 (Ear.wd (b) 1), .int .u32 (Ear.wd (b) 2), .int .u32 (Ear.wd (b) 3)]] w fun e w' => e = .returned (.agg #[.int .u32 (Ear.wd (Ear.clean (a &&& ~~~b)) 0), .int .u32 (Ear.wd (Ear.clean (a &&& ~~~b)) 1), .int .u32 (Ear.wd (Ear.clean (a &&& ~~~b)) 2), .int .u32 (Ear.wd (Ear.clean (a &&& ~~~b)) 3)]) ∧ Below w.heap.size w w' := by
  go_enter Try.func50, Try.ntmps50
  go_wp2_with (first | (go_at_call 57; refine (each_less _ _ _).mono ?_; rintro e w1 ⟨rfl, hb1⟩; obtain ⟨hc1, hf1⟩ := Ear.bcell hb1; have hB1 : Below w.heap.size w w1 := Below.trans (by go_grown) (hb1.mono (by (try simp only [World.size_alloc, World.size_setCell, World.size_drew, setRow_size]); omega)); have hs1 := hB1.size; have hz1_0 : w.heap.size + 1 + 1 < w1.heap.size := (by have hq := hb1.size; (try simp only [World.size_alloc, World.size_setCell, World.size_drew] at hq); omega)) | (go_at_call 56; refine (Clean_calls _ _).mono ?_; rintro e w2 ⟨rfl, hb2⟩; obtain ⟨hc2, hf2⟩ := Ear.bcell hb2; have hB2 : Below w.heap.size w w2 := Below.trans (by go_grown) (hb2.mono (by (try simp only [World.size_alloc, World.size_setCell, World.size_drew, setRow_size]); omega)); have hs2 := hB2.size; have hz2_0 : w.heap.size + 1 + 1 < w2.heap.size := (by have hq := hb2.size; (try simp only [World.size_alloc, World.size_setCell, World.size_drew] at hq); omega)))
  refine bodyPost_ret (v := .agg #[.int .u32 (Ear.wd (Ear.clean (a &&& ~~~b)) 0), .int .u32 (Ear.wd (Ear.clean (a &&& ~~~b)) 1), .int .u32 (Ear.wd (Ear.clean (a &&& ~~~b)) 2), .int .u32 (Ear.wd (Ear.clean (a &&& ~~~b)) 3)]) (by simp [results, Try.results50, go_sem, hc1, hc2, hz1_0, hz2_0]) rfl ⟨rfl, ?_⟩
  go_grown
end Go.Proofs.Ytfnolmlmmimehaa
end
section
namespace Go.Proofs.Ytfnolmlmmimehaa
set_option linter.unusedSimpArgs false
set_option linter.unusedVariables false
open Go.RowKit
attribute [local go_sem] eqSet
set_option maxRecDepth 100000 in
set_option maxHeartbeats 1000000 in
theorem Within_mid (v : BitVec 128) (n : Int) (h0 : 0 ≤ n) (h1 : n ≤ 100) (w : World) : Calls Try.prog 39 #[.agg #[.int .u32 (Ear.wd (v) 0), .int .u32 (Ear.wd (v) 1), .int .u32 (Ear.wd (v) 2), .int .u32 (Ear.wd (v) 3)], .int .i64 n] w fun e w' => e = .returned (.bool (decide (v &&& Ear.full (Ear.clampN n) = v))) ∧ Below w.heap.size w w' := by
  have HC := Lib.hid (show Ear.clampN n = n.toNat by unfold Ear.clampN; rw [if_neg (by omega), if_neg (by omega)])
  have hq1 : (if n < 0 then (0 : Int) else n) = n := if_neg (by omega)
  have hq2 : (if 100 < n then (100 : Int) else n) = n := if_neg (by omega)
  go_enter Try.func39, Try.ntmps39
  go_wp2
  refine Ear.Pl.wp_region_qb 8 (by kernel_rfl) (by kernel_rfl) (fun C hC1 hC2 => ?_); simp only [List.take_succ_cons, List.take_zero, List.drop_succ_cons, List.drop_zero]
  (iterate 4 (refine Ear.Pl.wpQ_run (by rfl) ?_; apply Exists.intro; refine ⟨fun K Q hK w' hw' => ?_, ?_⟩; (focus (obtain ⟨hc', hf'⟩ := Ear.bcell (hC1.out w' hw'); simp only [Act.put, List.setIfInBounds_toArray, List.set_cons_succ, List.set_cons_zero] at hK; go_wp2; exact hw')); simp only [Act.put, List.setIfInBounds_toArray, List.set_cons_succ, List.set_cons_zero]))
  refine Ear.Pl.wpQ_run (by rfl) ?_; apply Exists.intro; refine ⟨fun K Q hK w' hw' => ?_, ?_⟩; (focus (simp only [Act.put, List.setIfInBounds_toArray, List.set_cons_succ, List.set_cons_zero] at hK; go_wp2_with (refine (upTo_calls n (by omega) (by omega) _).mono ?_; rintro e w'' ⟨rfl, hb''⟩); exact hC2.out _ _ hw' hb'')); simp only [Act.put, List.setIfInBounds_toArray, List.set_cons_succ, List.set_cons_zero]
  refine Ear.Pl.wpQ_run (by rfl) ?_; apply Exists.intro; refine ⟨fun K Q hK w' hw' => ?_, ?_⟩; (focus (simp only [Act.put, List.setIfInBounds_toArray, List.set_cons_succ, List.set_cons_zero] at hK; go_wp2_with (refine (each_within v (Ear.full n.toNat) _).mono ?_; rintro e w'' ⟨rfl, hb''⟩); exact hC2.out _ _ hw' hb'')); simp only [Act.put, List.setIfInBounds_toArray, List.set_cons_succ, List.set_cons_zero]
  (iterate 2 (refine Ear.Pl.wpQ_run (by rfl) ?_; apply Exists.intro; refine ⟨fun K Q hK w' hw' => ?_, ?_⟩; (focus (obtain ⟨hc', hf'⟩ := Ear.bcell (hC1.out w' hw'); simp only [Act.put, List.setIfInBounds_toArray, List.set_cons_succ, List.set_cons_zero] at hK; go_wp2; exact hw')); simp only [Act.put, List.setIfInBounds_toArray, List.set_cons_succ, List.set_cons_zero]))
  refine Ear.Pl.wpQ_nil ?_
  intro w1 hb1
  obtain ⟨hc1, hf1⟩ := Ear.bcell hb1; have hB1 : Below w.heap.size w w1 := Below.trans (by go_grown) (hb1.mono (by (try simp only [World.size_alloc, World.size_setCell, World.size_drew, setRow_size]); omega)); have hs1 := hB1.size; have hz1_0 : w.heap.size < w1.heap.size := (by have hq := hb1.size; (try simp only [World.size_alloc, World.size_setCell, World.size_drew] at hq); omega)
  clear hC1 hC2
  go_wp2
  go_ret
  exact ⟨by rw [Ear.beq_words, HC.out]; rfl, hB1⟩
set_option maxRecDepth 100000 in
set_option maxHeartbeats 1000000 in
theorem Within_lo (v : BitVec 128) (n : Int) (h0 : n < 0) (w : World) : Calls Try.prog 39 #[.agg #[.int .u32 (Ear.wd (v) 0), .int .u32 (Ear.wd (v) 1), .int .u32 (Ear.wd (v) 2), .int .u32 (Ear.wd (v) 3)], .int .i64 n] w fun e w' => e = .returned (.bool (decide (v &&& Ear.full (Ear.clampN n) = v))) ∧ Below w.heap.size w w' := by
  have HC := Lib.hid (show Ear.clampN n = 0 by unfold Ear.clampN; rw [if_pos (by omega)])
  have hq1 : (if n < 0 then (0 : Int) else n) = 0 := if_pos (by omega)
  go_enter Try.func39, Try.ntmps39
  go_wp2
  refine Ear.Pl.wp_region_qb 8 (by kernel_rfl) (by kernel_rfl) (fun C hC1 hC2 => ?_); simp only [List.take_succ_cons, List.take_zero, List.drop_succ_cons, List.drop_zero]
  (iterate 4 (refine Ear.Pl.wpQ_run (by rfl) ?_; apply Exists.intro; refine ⟨fun K Q hK w' hw' => ?_, ?_⟩; (focus (obtain ⟨hc', hf'⟩ := Ear.bcell (hC1.out w' hw'); simp only [Act.put, List.setIfInBounds_toArray, List.set_cons_succ, List.set_cons_zero] at hK; go_wp2; exact hw')); simp only [Act.put, List.setIfInBounds_toArray, List.set_cons_succ, List.set_cons_zero]))
  refine Ear.Pl.wpQ_run (by rfl) ?_; apply Exists.intro; refine ⟨fun K Q hK w' hw' => ?_, ?_⟩; (focus (simp only [Act.put, List.setIfInBounds_toArray, List.set_cons_succ, List.set_cons_zero] at hK; go_wp2_with (refine (upTo_calls 0 (by omega) (by omega) _).mono ?_; rintro e w'' ⟨rfl, hb''⟩); exact hC2.out _ _ hw' hb'')); simp only [Act.put, List.setIfInBounds_toArray, List.set_cons_succ, List.set_cons_zero]
  refine Ear.Pl.wpQ_run (by rfl) ?_; apply Exists.intro; refine ⟨fun K Q hK w' hw' => ?_, ?_⟩; (focus (simp only [Act.put, List.setIfInBounds_toArray, List.set_cons_succ, List.set_cons_zero] at hK; go_wp2_with (refine (each_within v (Ear.full 0) _).mono ?_; rintro e w'' ⟨rfl, hb''⟩); exact hC2.out _ _ hw' hb'')); simp only [Act.put, List.setIfInBounds_toArray, List.set_cons_succ, List.set_cons_zero]
  (iterate 2 (refine Ear.Pl.wpQ_run (by rfl) ?_; apply Exists.intro; refine ⟨fun K Q hK w' hw' => ?_, ?_⟩; (focus (obtain ⟨hc', hf'⟩ := Ear.bcell (hC1.out w' hw'); simp only [Act.put, List.setIfInBounds_toArray, List.set_cons_succ, List.set_cons_zero] at hK; go_wp2; exact hw')); simp only [Act.put, List.setIfInBounds_toArray, List.set_cons_succ, List.set_cons_zero]))
  refine Ear.Pl.wpQ_nil ?_
  intro w1 hb1
  obtain ⟨hc1, hf1⟩ := Ear.bcell hb1; have hB1 : Below w.heap.size w w1 := Below.trans (by go_grown) (hb1.mono (by (try simp only [World.size_alloc, World.size_setCell, World.size_drew, setRow_size]); omega)); have hs1 := hB1.size; have hz1_0 : w.heap.size < w1.heap.size := (by have hq := hb1.size; (try simp only [World.size_alloc, World.size_setCell, World.size_drew] at hq); omega)
  clear hC1 hC2
  go_wp2
  go_ret
  exact ⟨by rw [Ear.beq_words, HC.out]; rfl, hB1⟩
set_option maxRecDepth 100000 in
set_option maxHeartbeats 1000000 in
theorem Within_hi (v : BitVec 128) (n : Int) (h0 : 100 < n) (w : World) : Calls Try.prog 39 #[.agg #[.int .u32 (Ear.wd (v) 0), .int .u32 (Ear.wd (v) 1), .int .u32 (Ear.wd (v) 2), .int .u32 (Ear.wd (v) 3)], .int .i64 n] w fun e w' => e = .returned (.bool (decide (v &&& Ear.full (Ear.clampN n) = v))) ∧ Below w.heap.size w w' := by
  have HC := Lib.hid (show Ear.clampN n = 100 by unfold Ear.clampN; rw [if_neg (by omega), if_pos (by omega)])
  have hq1 : (if n < 0 then (0 : Int) else n) = n := if_neg (by omega)
  have hq2 : (if 100 < n then (100 : Int) else n) = 100 := if_pos (by omega)
  go_enter Try.func39, Try.ntmps39
  go_wp2
  refine Ear.Pl.wp_region_qb 8 (by kernel_rfl) (by kernel_rfl) (fun C hC1 hC2 => ?_); simp only [List.take_succ_cons, List.take_zero, List.drop_succ_cons, List.drop_zero]
  (iterate 4 (refine Ear.Pl.wpQ_run (by rfl) ?_; apply Exists.intro; refine ⟨fun K Q hK w' hw' => ?_, ?_⟩; (focus (obtain ⟨hc', hf'⟩ := Ear.bcell (hC1.out w' hw'); simp only [Act.put, List.setIfInBounds_toArray, List.set_cons_succ, List.set_cons_zero] at hK; go_wp2; exact hw')); simp only [Act.put, List.setIfInBounds_toArray, List.set_cons_succ, List.set_cons_zero]))
  refine Ear.Pl.wpQ_run (by rfl) ?_; apply Exists.intro; refine ⟨fun K Q hK w' hw' => ?_, ?_⟩; (focus (simp only [Act.put, List.setIfInBounds_toArray, List.set_cons_succ, List.set_cons_zero] at hK; go_wp2_with (refine (upTo_calls 100 (by omega) (by omega) _).mono ?_; rintro e w'' ⟨rfl, hb''⟩); exact hC2.out _ _ hw' hb'')); simp only [Act.put, List.setIfInBounds_toArray, List.set_cons_succ, List.set_cons_zero]
  refine Ear.Pl.wpQ_run (by rfl) ?_; apply Exists.intro; refine ⟨fun K Q hK w' hw' => ?_, ?_⟩; (focus (simp only [Act.put, List.setIfInBounds_toArray, List.set_cons_succ, List.set_cons_zero] at hK; go_wp2_with (refine (each_within v (Ear.full 100) _).mono ?_; rintro e w'' ⟨rfl, hb''⟩); exact hC2.out _ _ hw' hb'')); simp only [Act.put, List.setIfInBounds_toArray, List.set_cons_succ, List.set_cons_zero]
  (iterate 2 (refine Ear.Pl.wpQ_run (by rfl) ?_; apply Exists.intro; refine ⟨fun K Q hK w' hw' => ?_, ?_⟩; (focus (obtain ⟨hc', hf'⟩ := Ear.bcell (hC1.out w' hw'); simp only [Act.put, List.setIfInBounds_toArray, List.set_cons_succ, List.set_cons_zero] at hK; go_wp2; exact hw')); simp only [Act.put, List.setIfInBounds_toArray, List.set_cons_succ, List.set_cons_zero]))
  refine Ear.Pl.wpQ_nil ?_
  intro w1 hb1
  obtain ⟨hc1, hf1⟩ := Ear.bcell hb1; have hB1 : Below w.heap.size w w1 := Below.trans (by go_grown) (hb1.mono (by (try simp only [World.size_alloc, World.size_setCell, World.size_drew, setRow_size]); omega)); have hs1 := hB1.size; have hz1_0 : w.heap.size < w1.heap.size := (by have hq := hb1.size; (try simp only [World.size_alloc, World.size_setCell, World.size_drew] at hq); omega)
  clear hC1 hC2
  go_wp2
  go_ret
  exact ⟨by rw [Ear.beq_words, HC.out]; rfl, hB1⟩
theorem Within_calls (v : BitVec 128) (n : Int) (w : World) : Calls Try.prog 39 #[.agg #[.int .u32 (Ear.wd (v) 0), .int .u32 (Ear.wd (v) 1), .int .u32 (Ear.wd (v) 2), .int .u32 (Ear.wd (v) 3)], .int .i64 n] w fun e w' => e = .returned (.bool (decide (v &&& Ear.full (Ear.clampN n) = v))) ∧ Below w.heap.size w w' := by
  by_cases h0 : n < 0
  · exact Within_lo v n h0 w
  · by_cases h1 : 100 < n
    · exact Within_hi v n h1 w
    · exact Within_mid v n (by omega) (by omega) w
set_option maxRecDepth 100000 in
set_option maxHeartbeats 1000000 in
theorem Subset_calls (a b : BitVec 128) (w : World) : Calls Try.prog 29 #[.agg #[.int .u32 (Ear.wd (a) 0), .int .u32 (Ear.wd (a) 1), .int .u32 (Ear.wd (a) 2), .int .u32 (Ear.wd (a) 3)], .agg #[.int .u32 (Ear.wd (b) 0), .int .u32 (Ear.wd (b) 1), .int .u32 (Ear.wd (b) 2), .int .u32 (Ear.wd (b) 3)]] w fun e w' => e = .returned (.bool (decide (Ear.clean (a &&& ~~~b) = 0#128))) ∧ Below w.heap.size w w' := by
  go_enter Try.func29, Try.ntmps29
  go_wp2_with (first | (go_at_call 50; refine (Less_calls _ _ _).mono ?_; rintro e w1 ⟨rfl, hb1⟩; obtain ⟨hc1, hf1⟩ := Ear.bcell hb1; have hB1 : Below w.heap.size w w1 := Below.trans (by go_grown) (hb1.mono (by (try simp only [World.size_alloc, World.size_setCell, World.size_drew, setRow_size]); omega)); have hs1 := hB1.size; have hz1_0 : w.heap.size < w1.heap.size := (by have hq := hb1.size; (try simp only [World.size_alloc, World.size_setCell, World.size_drew] at hq); omega)))
  go_ret
  exact ⟨by rw [Ear.beq_zero]; rfl, hB1⟩

set_option maxRecDepth 100000 in
set_option maxHeartbeats 1000000 in
theorem Has_yes (v : BitVec 128) (id : Int) (h0 : 0 ≤ id) (h1 : id < 100) (w : World) : Calls Try.prog 46 #[.agg #[.int .u32 (Ear.wd (v) 0), .int .u32 (Ear.wd (v) 1), .int .u32 (Ear.wd (v) 2), .int .u32 (Ear.wd (v) 3)], .int .i64 id] w fun e w' => e = .returned (.bool (v.getLsbD id.toNat)) ∧ Below w.heap.size w w' := by
  have hs := Ear.sel v (id / 32).toNat (by omega)
  go_enter Try.func46, Try.ntmps46
  go_wp2_with (go_at_call 59; refine (isId_yes _ (by omega) (by omega) _).mono ?_; rintro e w' ⟨rfl, rfl⟩)
  go_ret
  exact ⟨by rw [Ear.has_bit v id h0 (by omega)]; rfl, by go_grown⟩
set_option maxRecDepth 100000 in
set_option maxHeartbeats 1000000 in
theorem Has_no (v : BitVec 128) (id : Int) (h0 : id < 0 ∨ 100 ≤ id) (w : World) : Calls Try.prog 46 #[.agg #[.int .u32 (Ear.wd (v) 0), .int .u32 (Ear.wd (v) 1), .int .u32 (Ear.wd (v) 2), .int .u32 (Ear.wd (v) 3)], .int .i64 id] w fun e w' => e = .returned (.bool false) ∧ Below w.heap.size w w' := by
  go_enter Try.func46, Try.ntmps46
  go_wp2_with (go_at_call 59; refine (isId_no _ h0 _).mono ?_; rintro e w' ⟨rfl, rfl⟩)
  go_ret
  exact ⟨rfl, by go_grown⟩

set_option maxRecDepth 100000 in
set_option maxHeartbeats 1000000 in
theorem Full_yes (n : Int) (h0 : 0 ≤ n) (h1 : n ≤ 100) (w : World) : Calls Try.prog 24 #[.int .i64 n] w fun e w' => e = .returned (.tuple #[.agg #[.int .u32 (Ear.wd (Ear.full n.toNat) 0), .int .u32 (Ear.wd (Ear.full n.toNat) 1), .int .u32 (Ear.wd (Ear.full n.toNat) 2), .int .u32 (Ear.wd (Ear.full n.toNat) 3)], .int .i64 0]) ∧ Below w.heap.size w w' := by
  go_enter Try.func24, Try.ntmps24
  go_wp2_with (go_at_call 62; refine (upTo_calls _ (by omega) (by omega) _).mono ?_; rintro e w1 ⟨rfl, hb1⟩; obtain ⟨hc1, hf1⟩ := Ear.bcell hb1; have hB1 : Below w.heap.size w w1 := Below.trans (by go_grown) (hb1.mono (by (try simp only [World.size_alloc, World.size_setCell, World.size_drew, setRow_size]); omega)); have hs1 := hB1.size; have hz1_0 : w.heap.size < w1.heap.size := (by have hq := hb1.size; (try simp only [World.size_alloc, World.size_setCell, World.size_drew] at hq); omega))
  refine bodyPost_ret (v := .tuple #[.agg #[.int .u32 (Ear.wd (Ear.full n.toNat) 0), .int .u32 (Ear.wd (Ear.full n.toNat) 1), .int .u32 (Ear.wd (Ear.full n.toNat) 2), .int .u32 (Ear.wd (Ear.full n.toNat) 3)], .int .i64 0]) (by simp [results, Try.results24, go_sem, hc1, hz1_0]) rfl ⟨rfl, ?_⟩
  go_grown
set_option maxRecDepth 100000 in
set_option maxHeartbeats 1000000 in
theorem Full_no (n : Int) (h : n < 0 ∨ 100 < n) (w : World) : Calls Try.prog 24 #[.int .i64 n] w fun e w' => e = .returned (.tuple #[.agg #[.int .u32 (Ear.wd (0#128) 0), .int .u32 (Ear.wd (0#128) 1), .int .u32 (Ear.wd (0#128) 2), .int .u32 (Ear.wd (0#128) 3)], .int .i64 1]) ∧ Below w.heap.size w w' := by
  by_cases hn : n < 0
  all_goals
    go_enter Try.func24, Try.ntmps24
    go_wp2
    refine bodyPost_ret (v := .tuple #[.agg #[.int .u32 (Ear.wd (0#128) 0), .int .u32 (Ear.wd (0#128) 1), .int .u32 (Ear.wd (0#128) 2), .int .u32 (Ear.wd (0#128) 3)], .int .i64 1]) (by simp [results, Try.results24, go_sem, Ear.wd_zero]) rfl ⟨rfl, ?_⟩
    go_grown
end Go.Proofs.Ytfnolmlmmimehaa
end
section
namespace Go.Proofs.Ytfnolmlmmimehaa
set_option linter.unusedSimpArgs false
set_option linter.unusedVariables false
open Go.RowKit
attribute [local go_sem] eqSet
set_option maxRecDepth 100000 in
set_option maxHeartbeats 2000000 in
theorem With_yes (v : BitVec 128) (i : Nat) (h : i < 100) (w : World) : Calls Try.prog 22 #[.agg #[.int .u32 (Ear.wd (v) 0), .int .u32 (Ear.wd (v) 1), .int .u32 (Ear.wd (v) 2), .int .u32 (Ear.wd (v) 3)], .int .i64 (i : Int)] w fun e w' => e = .returned (.tuple #[.agg #[.int .u32 (Ear.wd (Ear.clean v ||| Ear.one i) 0), .int .u32 (Ear.wd (Ear.clean v ||| Ear.one i) 1), .int .u32 (Ear.wd (Ear.clean v ||| Ear.one i) 2), .int .u32 (Ear.wd (Ear.clean v ||| Ear.one i) 3)], .int .i64 0]) ∧ Below w.heap.size w w' := by
  have hcase : i / 32 = 0 ∨ i / 32 = 1 ∨ i / 32 = 2 ∨ i / 32 = 3 := by omega
  rcases hcase with hk | hk | hk | hk
  all_goals
    have HK := Lib.hid hk
    clear hk
    go_enter Try.func22, Try.ntmps22
    go_wp2_with (first | (go_at_call 59; refine (isId_yes _ (by omega) (by omega) _).mono ?_; rintro e w' ⟨rfl, rfl⟩) | (go_at_call 56; refine (Clean_calls _ _).mono ?_; rintro e w1 ⟨rfl, hb1⟩; obtain ⟨hc1, hf1⟩ := Ear.bcell hb1; have hB1 : Below w.heap.size w w1 := Below.trans (by go_grown) (hb1.mono (by (try simp only [World.size_alloc, World.size_setCell, World.size_drew, setRow_size]); omega)); have hs1 := hB1.size; have hz1_0 : w.heap.size < w1.heap.size := (by have hq := hb1.size; (try simp only [World.size_alloc, World.size_setCell, World.size_drew] at hq); omega); have hz1_1 : w.heap.size + 1 < w1.heap.size := (by have hq := hb1.size; (try simp only [World.size_alloc, World.size_setCell, World.size_drew] at hq); omega)))
    refine Ear.wp_world (fun W => Below w.heap.size w W ∧ Ear.Blk W w.heap.size 26 [.int .u32 (Ear.wd (Ear.clean v) 0), .int .u32 (Ear.wd (Ear.clean v) 1), .int .u32 (Ear.wd (Ear.clean v) 2), .int .u32 (Ear.wd (Ear.clean v) 3)] ∧
      Ear.Blk W (w.heap.size + 1) 26 [.int .u32 0, .int .u32 0, .int .u32 0, .int .u32 0]) ⟨?_, ?_, ?_⟩ ?_
    · go_grown
    · (repeat' (first | (show Ear.Blk _ _ _ _; with_reducible assumption) | ((with_reducible apply Ear.Blk.new'); (simp only [World.size_alloc, World.size_setCell, World.size_drew, setRow_size]; done)) | (with_reducible apply Ear.Blk.alloc) | (with_reducible apply Ear.Blk.drew) | (with_reducible apply Ear.Blk.set') | (with_reducible apply Ear.Blk.setRow') | (with_reducible apply Ear.Blk.otherRow) | (with_reducible apply Ear.Blk.other) | (with_reducible apply Ear.Blk.below (hb := hb1)) | (show List.set _ _ _ = _; first | exact HSET.out | exact Ear.set_xor _ _ (by omega) | exact Ear.set_or _ _ (by omega) | rfl) | (show _ ≠ _; (try simp only [World.size_alloc, World.size_setCell, World.size_drew, setRow_size]); omega) | (show _ < _; (try simp only [World.size_alloc, World.size_setCell, World.size_drew, setRow_size]); omega)))
    · (repeat' (first | (show Ear.Blk _ _ _ _; with_reducible assumption) | ((with_reducible apply Ear.Blk.new'); (simp only [World.size_alloc, World.size_setCell, World.size_drew, setRow_size]; done)) | (with_reducible apply Ear.Blk.alloc) | (with_reducible apply Ear.Blk.drew) | (with_reducible apply Ear.Blk.set') | (with_reducible apply Ear.Blk.setRow') | (with_reducible apply Ear.Blk.otherRow) | (with_reducible apply Ear.Blk.other) | (with_reducible apply Ear.Blk.below (hb := hb1)) | (show List.set _ _ _ = _; first | exact HSET.out | exact Ear.set_xor _ _ (by omega) | exact Ear.set_or _ _ (by omega) | rfl) | (show _ ≠ _; (try simp only [World.size_alloc, World.size_setCell, World.size_drew, setRow_size]); omega) | (show _ < _; (try simp only [World.size_alloc, World.size_setCell, World.size_drew, setRow_size]); omega)))
    clear hb1 hc1 hf1 hB1 hs1 hz1_0 hz1_1
    rintro W ⟨hB, hb0, hb1⟩
    have hk' := HK.out
    have hb0_c0 := hb0.cell 0; have hb0_f0 := hb0.frozen 0; have hb0_c1 := hb0.cell 1; have hb0_f1 := hb0.frozen 1; have hb0_c2 := hb0.cell 2; have hb0_f2 := hb0.frozen 2; have hb0_c3 := hb0.cell 3; have hb0_f3 := hb0.frozen 3
    have hb1_c0 := hb1.cell 0; have hb1_f0 := hb1.frozen 0; have hb1_c1 := hb1.cell 1; have hb1_f1 := hb1.frozen 1; have hb1_c2 := hb1.cell 2; have hb1_f2 := hb1.frozen 2; have hb1_c3 := hb1.cell 3; have hb1_f3 := hb1.frozen 3
    refine Ear.Pl.wp_region_qs 8 (by kernel_rfl) (by kernel_rfl) ?_; simp only [List.take_succ_cons, List.take_zero, List.drop_succ_cons, List.drop_zero]
    (iterate 8 (refine Ear.Pl.wpQ_run (by rfl) ?_; apply Exists.intro; refine ⟨fun K Q hK w' hw' => ?_, ?_⟩; (focus (subst hw'; simp only [Act.put, List.setIfInBounds_toArray, List.set_cons_succ, List.set_cons_zero] at hK; go_wp2; try rfl)); simp only [Act.put, List.setIfInBounds_toArray, List.set_cons_succ, List.set_cons_zero]))
    refine Ear.Pl.wpQ_nil ?_
    rintro w' rfl
    go_wp2
    refine bodyPost_ret (v := .tuple #[.agg #[.int .u32 (Ear.wd (Ear.clean v ||| Ear.one i) 0), .int .u32 (Ear.wd (Ear.clean v ||| Ear.one i) 1), .int .u32 (Ear.wd (Ear.clean v ||| Ear.one i) 2), .int .u32 (Ear.wd (Ear.clean v ||| Ear.one i) 3)], .int .i64 0]) (by simp [results, Try.results22, go_sem, hb0_c0, hb0_c1, hb0_c2, hb0_c3, hb1_c0, hb1_c1, hb1_c2, hb1_c3]; refine ⟨?_, ?_, ?_, ?_⟩ <;> first | exact Ear.or_same _ i _ (by omega) HK.out | (symm; exact Ear.or_other _ i _ (by omega))) rfl ⟨rfl, ?_⟩
    go_grown

set_option maxRecDepth 100000 in
set_option maxHeartbeats 1000000 in
theorem With_no (v : BitVec 128) (i : Int) (h : i < 0 ∨ 100 ≤ i) (w : World) : Calls Try.prog 22 #[.agg #[.int .u32 (Ear.wd (v) 0), .int .u32 (Ear.wd (v) 1), .int .u32 (Ear.wd (v) 2), .int .u32 (Ear.wd (v) 3)], .int .i64 i] w fun e w' => e = .returned (.tuple #[.agg #[.int .u32 (Ear.wd (0#128) 0), .int .u32 (Ear.wd (0#128) 1), .int .u32 (Ear.wd (0#128) 2), .int .u32 (Ear.wd (0#128) 3)], .int .i64 30]) ∧ Below w.heap.size w w' := by
  go_enter Try.func22, Try.ntmps22
  go_wp2_with (first | (go_at_call 59; refine (isId_no _ h _).mono ?_; rintro e w' ⟨rfl, rfl⟩))
  refine bodyPost_ret (v := .tuple #[.agg #[.int .u32 (Ear.wd (0#128) 0), .int .u32 (Ear.wd (0#128) 1), .int .u32 (Ear.wd (0#128) 2), .int .u32 (Ear.wd (0#128) 3)], .int .i64 30]) (by simp [results, Try.results22, go_sem, Ear.wd_zero]) rfl ⟨rfl, ?_⟩
  go_grown
end Go.Proofs.Ytfnolmlmmimehaa
end
section
namespace Go.Proofs.Ytfnolmlmmimehaa
set_option linter.unusedSimpArgs false
set_option linter.unusedVariables false
open Go.RowKit
attribute [local go_sem] eqSet
end Go.Proofs.Ytfnolmlmmimehaa
end
section
namespace Go.Proofs.Ytfnolmlmmimehaa
set_option linter.unusedSimpArgs false
set_option linter.unusedVariables false
open Go.RowKit


set_option maxRecDepth 100000 in
set_option maxHeartbeats 1000000 in
theorem OnesCount_calls (v : BitVec 128) (k : Nat) (w : World) : Calls Try.prog 63 #[.int .u32 (Ear.wd v k)] w fun e w' => e = .returned (.int .i64 ((Ear.cw v k : Nat) : Int)) ∧ Below w.heap.size w w' := by
  have HP := Lib.hid (Ear.pop32 v k)
  have h0 := Ear.wd_lo v k
  have h1 := Ear.wd_hi v k
  generalize Ear.wd v k = x at *
  have q24 : 0 ≤ x / 16777216 ∧ x / 16777216 ≤ 255 := by omega
  obtain ⟨q24a, q24b⟩ := q24
  have q16 := Ear.bits_and_255 (x / 65536) (by omega) (by omega)
  have q8 := Ear.bits_and_255 (x / 256) (by omega) (by omega)
  have q0 := Ear.bits_and_255 x h0 h1
  clear h1
  go_enter Try.func63, Try.ntmps63
  go_wp2
  refine Ear.Pl.wp_region_qs 18 (by kernel_rfl) (by kernel_rfl) ?_; simp only [List.take_succ_cons, List.take_zero, List.drop_succ_cons, List.drop_zero]
  (iterate 18 (refine Ear.Pl.wpQ_run (by rfl) ?_; apply Exists.intro; refine ⟨fun K Q hK w' hw' => ?_, ?_⟩; (focus (subst hw'; simp only [Act.put, List.setIfInBounds_toArray, List.set_cons_succ, List.set_cons_zero] at hK; go_wp2; try rfl)); simp only [Act.put, List.setIfInBounds_toArray, List.set_cons_succ, List.set_cons_zero]))
  refine Ear.Pl.wpQ_nil ?_
  rintro w' rfl
  go_wp2
  go_ret
  exact ⟨by rw [← HP.out]; rfl, by go_grown⟩
end Go.Proofs.Ytfnolmlmmimehaa
end
section
namespace Go.Proofs.Ytfnolmlmmimehaa
set_option linter.unusedSimpArgs false
set_option linter.unusedVariables false
open Go.RowKit
attribute [local go_sem] eqSet
theorem idx4_0 (x0 x1 x2 x3 : Value) (w : World) : Sem.run Try.prog (Instr.index 26 (.agg #[x0, x1, x2, x3]) (.int .i64 0)) w = .ok x0 w := by kernel_rfl
theorem idx4_1 (x0 x1 x2 x3 : Value) (w : World) : Sem.run Try.prog (Instr.index 26 (.agg #[x0, x1, x2, x3]) (.int .i64 1)) w = .ok x1 w := by kernel_rfl
theorem idx4_2 (x0 x1 x2 x3 : Value) (w : World) : Sem.run Try.prog (Instr.index 26 (.agg #[x0, x1, x2, x3]) (.int .i64 2)) w = .ok x2 w := by kernel_rfl
theorem idx4_3 (x0 x1 x2 x3 : Value) (w : World) : Sem.run Try.prog (Instr.index 26 (.agg #[x0, x1, x2, x3]) (.int .i64 3)) w = .ok x3 w := by kernel_rfl

theorem sum4 (v : BitVec 128) : wrap64 (wrap64 (wrap64 (wrap64 ((Ear.cw v 0 : Nat) : Int) + ((Ear.cw v 1 : Nat) : Int)) + ((Ear.cw v 2 : Nat) : Int)) + ((Ear.cw v 3 : Nat) : Int)) = ((Ear.cnt128 v : Nat) : Int) := by
  have h := Ear.cnt128_words v
  have h0 : Ear.cw v 0 ≤ 32 := Ear.cnt_le 32 _
  have h1 : Ear.cw v 1 ≤ 32 := Ear.cnt_le 32 _
  have h2 : Ear.cw v 2 ≤ 32 := Ear.cnt_le 32 _
  have h3 : Ear.cw v 3 ≤ 32 := Ear.cnt_le 32 _
  simp only [wrap64]
  omega

attribute [local go_sem] idx4_0 idx4_1 idx4_2 idx4_3
set_option maxRecDepth 100000 in
set_option maxHeartbeats 1000000 in
theorem Count_calls (v : BitVec 128) (w : World) : Calls Try.prog 25 #[.agg #[.int .u32 (Ear.wd (v) 0), .int .u32 (Ear.wd (v) 1), .int .u32 (Ear.wd (v) 2), .int .u32 (Ear.wd (v) 3)]] w fun e w' => e = .returned (.int .i64 ((Ear.cnt128 (Ear.clean v) : Nat) : Int)) ∧ Below w.heap.size w w' := by
  go_enter Try.func25, Try.ntmps25
  go_wp2_with (go_at_call 56; refine (Clean_calls _ _).mono ?_; rintro e w1 ⟨rfl, hb1⟩; have hB1 : Below w.heap.size w w1 := Below.trans (by go_grown) (hb1.mono (by (try simp only [World.size_alloc, World.size_setCell, World.size_drew, setRow_size]); omega)); have hs1 := hB1.size; clear hb1)
  refine wp_loop_rounds 5 ?_
  rw [rounds_succ]
  go_wp2_with (go_at_call 63; refine (OnesCount_calls _ 0 _).mono ?_; rintro e w2 ⟨rfl, hb2⟩; have hB2 : Below w.heap.size w w2 := Below.trans (by go_grown) (hb2.mono (by (try simp only [World.size_alloc, World.size_setCell, World.size_drew, setRow_size]); omega)); have hs2 := hB2.size; clear hb2)
  rw [rounds_succ]
  go_wp2_with (go_at_call 63; refine (OnesCount_calls _ 1 _).mono ?_; rintro e w3 ⟨rfl, hb3⟩; have hB3 : Below w.heap.size w w3 := Below.trans (by go_grown) (hb3.mono (by (try simp only [World.size_alloc, World.size_setCell, World.size_drew, setRow_size]); omega)); have hs3 := hB3.size; clear hb3)
  rw [rounds_succ]
  go_wp2_with (go_at_call 63; refine (OnesCount_calls _ 2 _).mono ?_; rintro e w4 ⟨rfl, hb4⟩; have hB4 : Below w.heap.size w w4 := Below.trans (by go_grown) (hb4.mono (by (try simp only [World.size_alloc, World.size_setCell, World.size_drew, setRow_size]); omega)); have hs4 := hB4.size; clear hb4)
  rw [rounds_succ]
  go_wp2_with (go_at_call 63; refine (OnesCount_calls _ 3 _).mono ?_; rintro e w5 ⟨rfl, hb5⟩; have hB5 : Below w.heap.size w w5 := Below.trans (by go_grown) (hb5.mono (by (try simp only [World.size_alloc, World.size_setCell, World.size_drew, setRow_size]); omega)); have hs5 := hB5.size; clear hb5)
  rw [rounds_succ]
  go_wp2
  go_ret
  exact ⟨by rw [← sum4]; rfl, hB5⟩
end Go.Proofs.Ytfnolmlmmimehaa
end
section
namespace Go.Proofs.Ytfnolmlmmimehaa
set_option linter.unusedSimpArgs false
set_option linter.unusedVariables false
open Go.RowKit
attribute [local go_sem] eqSet
def ofL (l : List Int) : BitVec 128 := l.foldl (fun s x => Ear.clean s ||| Ear.one x.toNat) 0#128
def okL (l : List Int) : Prop := ∀ x ∈ l, 0 ≤ x ∧ x < 100
theorem ofL_snoc (l : List Int) (i : Nat) : ofL (l ++ [(i : Int)]) = Ear.clean (ofL l) ||| Ear.one i := by
  unfold ofL; rw [List.foldl_append]; rfl
theorem take_snocI (l : List Int) (k : Nat) (h : k < l.length) : l.take (k + 1) = l.take k ++ [l[k]] := List.take_succ_eq_append_getElem h
/-- Where a list of ints lies. -/
def Lies (l : List Int) (base : Option Addr) (w : World) : Prop := ∀ i, (h : i < l.length) → ∃ B o, base = some ⟨B, o, none⟩ ∧ B < w.heap.size ∧ w.cell? ⟨B, o + i, none⟩ = some (.int .i64 l[i])
theorem Lies.below {l : List Int} {base : Option Addr} {n : Nat} {w w' : World} (h : Lies l base w) (hb : Below n w w') (hn : ∀ i, i < l.length → ∀ B o, base = some ⟨B, o, none⟩ → B < n) : Lies l base w' := by
  intro i hi
  obtain ⟨B, o, e, hB, hc⟩ := h i hi
  exact ⟨B, o, e, by have := hb.size; omega, by rw [(hb.cell (p := ⟨B, o + i, none⟩) (hn i hi B o e))]; exact hc⟩
theorem Lies.read {l : List Int} {base : Option Addr} {w w' : World} (h : Lies l base w) (hb : Below w.heap.size w w') (k : Nat) (hk : k < l.length) (x : Int) (hx : l[k] = x) :
    ∃ B o, base = some ⟨B, o, none⟩ ∧ B < w.heap.size ∧ w'.cell? ⟨B, o + k, none⟩ = some (.int .i64 x) := by
  obtain ⟨B, o, e, hB, hc⟩ := h k hk
  exact ⟨B, o, e, hB, by rw [(hb.cell (p := ⟨B, o + k, none⟩) hB), hc, hx]⟩

/-- At a call's end: from here on a world of which this is known. -/
theorem bp_world {P : Program} {f : Func} {Q : Ending → World → Prop} {x : Exit} {a : Act} {w : World} (Φ : World → Prop) (h : Φ w) (k : ∀ w', Φ w' → bodyPost P f Q x a w') : bodyPost P f Q x a w := k w h

def ofPost (l : List Int) (w : World) (e : Ending) (w' : World) : Prop :=
  ((okL l ∧ e = .returned (.tuple #[.agg #[.int .u32 (Ear.wd (ofL l) 0), .int .u32 (Ear.wd (ofL l) 1), .int .u32 (Ear.wd (ofL l) 2), .int .u32 (Ear.wd (ofL l) 3)], .int .i64 0])) ∨ (¬ okL l ∧ e = .returned (.tuple #[.agg #[.int .u32 (Ear.wd (0#128) 0), .int .u32 (Ear.wd (0#128) 1), .int .u32 (Ear.wd (0#128) 2), .int .u32 (Ear.wd (0#128) 3)], .int .i64 30]))) ∧ Below w.heap.size w w'
theorem wrap_succ (k n : Nat) (h : k < n) (hn : n ≤ 5000) : wrap64 ((k : Int) + 1) = ((k + 1 : Nat) : Int) := by simp only [wrap64]; omega

end Go.Proofs.Ytfnolmlmmimehaa
end
