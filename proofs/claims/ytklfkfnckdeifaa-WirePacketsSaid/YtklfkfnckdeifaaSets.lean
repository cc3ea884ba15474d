/-
  What the calls of package idset come to.
  What the calls of package idset come to, more.
  What the calls of package idset come to: sets of sets.
  What the calls of package idset come to: tests and single ids.
  What the calls of package idset come to: one id put in or taken out.
  What the calls of package idset come to: the order.
  What bits.OnesCount32 comes to.
  What the calls of package idset come to: how many; lists of ids.
  What the calls of package idset come to: the set of a list.
-/
import Derived.Test.YtklfkfnckdeifaaProg
import Derived.Test.YtklfkfnckdeifaaLib
import Derived.Test.YtklfkfnckdeifaaMath
import Derived.WalkKit
import Derived.WalkSpells
import Derived.WalkLawsBesides
import Derived.Handy
import Derived.Lib.Hide
import Derived.Lib.BitFns
import Derived.Lib.Tables
import Derived.LoopTactic
section
namespace Go.Proofs.Ytklfkfnckdeifaa
set_option linter.unusedSimpArgs false
set_option linter.unusedVariables false
open Go.RowKit

/-- Two sets, held against each other. -/
theorem eqSet (a0 a1 a2 a3 b0 b1 b2 b3 : Int) (w : World) :
    Sem.run Try.prog (Op.equalIn 10000 30 (.agg #[.int .u32 a0, .int .u32 a1, .int .u32 a2, .int .u32 a3]) (.agg #[.int .u32 b0, .int .u32 b1, .int .u32 b2, .int .u32 b3])) w = .ok (a0 == b0 && a1 == b1 && a2 == b2 && a3 == b3) w :=
  Ear.run_equal_set (e := 28) Try.underlying30 Try.underlying28 (by kernel_rfl) a0 a1 a2 a3 b0 b1 b2 b3 w

theorem withinAnd_calls (a b : Int) (w : World) : Calls Try.prog 70 #[.int .u32 a, .int .u32 b] w fun e w' => e = .returned (.int .u32 (Go.bits .and .u32 a b)) ∧ w' = w := by
  go_enter Try.func70, Try.ntmps70
  go_wp2
  go_ret
  exact ⟨rfl, rfl⟩

theorem isId_yes (a : Int) (h0 : 0 ≤ a) (h1 : a < 100) (w : World) : Calls Try.prog 76 #[.int .i64 a] w fun e w' => e = .returned (.bool true) ∧ w' = w := by
  go_enter Try.func76, Try.ntmps76
  go_wp2
  go_ret
  exact ⟨by rfl, rfl⟩
theorem isId_no (a : Int) (h : a < 0 ∨ 100 ≤ a) (w : World) : Calls Try.prog 76 #[.int .i64 a] w fun e w' => e = .returned (.bool false) ∧ w' = w := by
  go_enter Try.func76, Try.ntmps76
  go_wp2
  · go_ret
    exact ⟨by simp; omega, rfl⟩
  · go_ret
    exact ⟨by rfl, rfl⟩

set_option maxHeartbeats 2000000 in
theorem each_calls (f : Nat) (g : Int → Int → Int) (hcf : ∀ args w, Sem.run Try.prog (callFunc f args) w = .ok (.enter f args) w) (hg : ∀ x y w, Calls Try.prog f #[.int .u32 x, .int .u32 y] w fun e w' => e = .returned (.int .u32 (g x y)) ∧ w' = w)
    (a0 a1 a2 a3 b0 b1 b2 b3 : Int) (w : World) :
    Calls Try.prog 68 #[.agg #[.int .u32 a0, .int .u32 a1, .int .u32 a2, .int .u32 a3], .agg #[.int .u32 b0, .int .u32 b1, .int .u32 b2, .int .u32 b3], .func (.func f) #[] #[]] w
      fun e w' => e = .returned (.agg #[.int .u32 (g a0 b0), .int .u32 (g a1 b1), .int .u32 (g a2 b2), .int .u32 (g a3 b3)]) ∧ Below w.heap.size w w' := by
  have HG := Lib.hid hg
  clear hg
  go_enter Try.func68, Try.ntmps68
  go_wp2
  refine wp_loop_rounds 5 ?_
  iterate 4 (rw [rounds_succ]; go_wp2; refine Ear.Pl.wp_region_qs 9 (by kernel_rfl) (by kernel_rfl) ?_; simp only [List.take_succ_cons, List.take_zero, List.drop_succ_cons, List.drop_zero]; (iterate 8 (refine Ear.Pl.wpQ_run (by rfl) ?_; apply Exists.intro; refine ⟨fun K Q hK w' hw' => ?_, ?_⟩; (focus (subst hw'; simp only [Act.put, List.setIfInBounds_toArray, List.set_cons_succ, List.set_cons_zero] at hK; go_wp2; try rfl)); simp only [Act.put, List.setIfInBounds_toArray, List.set_cons_succ, List.set_cons_zero])); refine Ear.Pl.wpQ_run (by rfl) ?_; apply Exists.intro; refine ⟨fun K Q hK w' hw' => ?_, ?_⟩; (focus (subst hw'; simp only [Act.put, List.setIfInBounds_toArray, List.set_cons_succ, List.set_cons_zero] at hK; go_wp2_with (refine (HG.out _ _ _).mono ?_; rintro e w'' ⟨rfl, rfl⟩); try rfl)); simp only [Act.put, List.setIfInBounds_toArray, List.set_cons_succ, List.set_cons_zero]; refine Ear.Pl.wpQ_nil ?_; rintro w' rfl; go_wp2)
  rw [rounds_succ]
  go_wp2
  refine bodyPost_ret (v := .agg #[.int .u32 (g a0 b0), .int .u32 (g a1 b1), .int .u32 (g a2 b2), .int .u32 (g a3 b3)]) (by simp [results, Try.results68, go_sem]) rfl ⟨rfl, ?_⟩
  go_grown

theorem each_within (a b : BitVec 128) (w : World) : Calls Try.prog 68 #[.agg #[.int .u32 (Ear.wd (a) 0), .int .u32 (Ear.wd (a) 1), .int .u32 (Ear.wd (a) 2), .int .u32 (Ear.wd (a) 3)], .agg #[.int .u32 (Ear.wd (b) 0), .int .u32 (Ear.wd (b) 1), .int .u32 (Ear.wd (b) 2), .int .u32 (Ear.wd (b) 3)], .func (.func 70) #[] #[]] w fun e w' => e = .returned (.agg #[.int .u32 (Ear.wd (a &&& b) 0), .int .u32 (Ear.wd (a &&& b) 1), .int .u32 (Ear.wd (a &&& b) 2), .int .u32 (Ear.wd (a &&& b) 3)]) ∧ Below w.heap.size w w' := by
  have h := each_calls 70 (Go.bits .and .u32) (fun _ _ => by kernel_rfl) withinAnd_calls (Ear.wd a 0) (Ear.wd a 1) (Ear.wd a 2) (Ear.wd a 3) (Ear.wd b 0) (Ear.wd b 1) (Ear.wd b 2) (Ear.wd b 3) w
  simpa only [Ear.wd_and] using h
end Go.Proofs.Ytklfkfnckdeifaa
end
section
namespace Go.Proofs.Ytklfkfnckdeifaa
set_option linter.unusedSimpArgs false
set_option linter.unusedVariables false
open Go.RowKit
attribute [local go_sem] eqSet
set_option maxHeartbeats 1000000 in
theorem upTo_calls (n : Int) (h0 : 0 ≤ n) (h1 : n ≤ 100) (w : World) : Calls Try.prog 69 #[.int .i64 n] w fun e w' => e = .returned (.agg #[.int .u32 (Ear.wd (Ear.full n.toNat) 0), .int .u32 (Ear.wd (Ear.full n.toNat) 1), .int .u32 (Ear.wd (Ear.full n.toNat) 2), .int .u32 (Ear.wd (Ear.full n.toNat) 3)]) ∧ Below w.heap.size w w' := by
  go_enter Try.func69, Try.ntmps69
  go_wp2
  go_rounds 5
  all_goals
    refine bodyPost_ret (v := .agg #[.int .u32 (Ear.wd (Ear.full n.toNat) 0), .int .u32 (Ear.wd (Ear.full n.toNat) 1), .int .u32 (Ear.wd (Ear.full n.toNat) 2), .int .u32 (Ear.wd (Ear.full n.toNat) 3)]) (by simp [results, Try.results69, go_sem]; refine ⟨?_, ?_, ?_, ?_⟩ <;> symm <;> first | exact (Ear.full_hi _ _ (by omega) (by omega)) | exact (Ear.full_lo _ _ (by omega) (by omega)) | exact (Ear.full_mid _ _ _ (by omega) (by omega) (by omega))) rfl ⟨rfl, ?_⟩
    go_grown

end Go.Proofs.Ytklfkfnckdeifaa
end
section
namespace Go.Proofs.Ytklfkfnckdeifaa
set_option linter.unusedSimpArgs false
set_option linter.unusedVariables false
open Go.RowKit
attribute [local go_sem] eqSet
end Go.Proofs.Ytklfkfnckdeifaa
end
section
namespace Go.Proofs.Ytklfkfnckdeifaa
set_option linter.unusedSimpArgs false
set_option linter.unusedVariables false
open Go.RowKit
attribute [local go_sem] eqSet
set_option maxRecDepth 100000 in
set_option maxHeartbeats 1000000 in
theorem Within_mid (v : BitVec 128) (n : Int) (h0 : 0 ≤ n) (h1 : n ≤ 100) (w : World) : Calls Try.prog 63 #[.agg #[.int .u32 (Ear.wd (v) 0), .int .u32 (Ear.wd (v) 1), .int .u32 (Ear.wd (v) 2), .int .u32 (Ear.wd (v) 3)], .int .i64 n] w fun e w' => e = .returned (.bool (decide (v &&& Ear.full (Ear.clampN n) = v))) ∧ Below w.heap.size w w' := by
  have HC := Lib.hid (show Ear.clampN n = n.toNat by unfold Ear.clampN; rw [if_neg (by omega), if_neg (by omega)])
  have hq1 : (if n < 0 then (0 : Int) else n) = n := if_neg (by omega)
  have hq2 : (if 100 < n then (100 : Int) else n) = n := if_neg (by omega)
  go_enter Try.func63, Try.ntmps63
  go_wp2
  refine Ear.Pl.wp_region_qb 8 (by kernel_rfl) (by kernel_rfl) (fun C hC1 hC2 => ?_); simp only [List.take_succ_cons, List.take_zero, List.drop_succ_cons, List.drop_zero]
  (iterate 4 (refine Ear.Pl.wpQ_run (by rfl) ?_; apply Exists.intro; refine ⟨fun K Q hK w' hw' => ?_, ?_⟩; (focus (obtain ⟨hc', hf'⟩ := Ear.bcell (hC1.out w' hw'); simp only [Act.put, List.setIfInBounds_toArray, List.set_cons_succ, List.set_cons_zero] at hK; go_wp2; exact hw')); simp only [Act.put, List.setIfInBounds_toArray, List.set_cons_succ, List.set_cons_zero]))
  refine Ear.Pl.wpQ_run (by rfl) ?_; apply Exists.intro; refine ⟨fun K Q hK w' hw' => ?_, ?_⟩; (focus (simp only [Act.put, List.setIfInBounds_toArray, List.set_cons_succ, List.set_cons_zero] at hK; go_wp2_with (refine (upTo_calls n (by omega) (by omega) _).mono ?_; rintro e w'' ⟨rfl, hb''⟩); exact hC2.out _ _ hw' hb'')); simp only [Act.put, List.setIfInBounds_toArray, List.set_cons_succ, List.set_cons_zero]
  refine Ear.Pl.wpQ_run (by rfl) ?_; apply Exists.intro; refine ⟨fun K Q hK w' hw' => ?_, ?_⟩; (focus (simp only [Act.put, List.setIfInBounds_toArray, List.set_cons_succ, List.set_cons_zero] at hK; go_wp2_with (refine (each_within v (Ear.full n.toNat) _).mono ?_; rintro e w'' ⟨rfl, hb''⟩); exact hC2.out _ _ hw' hb'')); simp only [Act.put, List.setIfInBounds_toArray, List.set_cons_succ, List.set_cons_zero]
  (iterate 2 (refine Ear.Pl.wpQ_run (by rfl) ?_; apply Exists.intro; refine ⟨fun K Q hK w' hw' => ?_, ?_⟩; (focus (obtain ⟨hc', hf'⟩ := Ear.bcell (hC1.out w' hw'); simp only [Act.put, List.setIfInBounds_toArray, List.set_cons_succ, List.set_cons_zero] at hK; go_wp2; exact hw')); simp only [Act.put, List.setIfInBounds_toArray, List.set_cons_succ, List.set_cons_zero]))
  refine Ear.Pl.wpQ_nil ?_
  intro w1 hb1
  obtain ⟨hc1, hf1⟩ := Ear.bcell hb1; have hB1 : Below w.heap.size w w1 := Below.trans (by go_grown) (hb1.mono (by (try simp only [World.size_alloc, World.size_setCell, World.size_drew, setRow_size]); omega)); have hs1 := hB1.size; have hz1_0 : w.heap.size < w1.heap.size := (by have hq := hb1.size; (try simp only [World.size_alloc, World.size_setCell, World.size_drew] at hq); omega)
  clear hC1 hC2
  go_wp2
  go_ret
  exact ⟨by rw [Ear.beq_words, HC.out]; rfl, hB1⟩
set_option maxRecDepth 100000 in
set_option maxHeartbeats 1000000 in
theorem Within_lo (v : BitVec 128) (n : Int) (h0 : n < 0) (w : World) : Calls Try.prog 63 #[.agg #[.int .u32 (Ear.wd (v) 0), .int .u32 (Ear.wd (v) 1), .int .u32 (Ear.wd (v) 2), .int .u32 (Ear.wd (v) 3)], .int .i64 n] w fun e w' => e = .returned (.bool (decide (v &&& Ear.full (Ear.clampN n) = v))) ∧ Below w.heap.size w w' := by
  have HC := Lib.hid (show Ear.clampN n = 0 by unfold Ear.clampN; rw [if_pos (by omega)])
  have hq1 : (if n < 0 then (0 : Int) else n) = 0 := if_pos (by omega)
  go_enter Try.func63, Try.ntmps63
  go_wp2
  refine Ear.Pl.wp_region_qb 8 (by kernel_rfl) (by kernel_rfl) (fun C hC1 hC2 => ?_); simp only [List.take_succ_cons, List.take_zero, List.drop_succ_cons, List.drop_zero]
  (iterate 4 (refine Ear.Pl.wpQ_run (by rfl) ?_; apply Exists.intro; refine ⟨fun K Q hK w' hw' => ?_, ?_⟩; (focus (obtain ⟨hc', hf'⟩ := Ear.bcell (hC1.out w' hw'); simp only [Act.put, List.setIfInBounds_toArray, List.set_cons_succ, List.set_cons_zero] at hK; go_wp2; exact hw')); simp only [Act.put, List.setIfInBounds_toArray, List.set_cons_succ, List.set_cons_zero]))
  refine Ear.Pl.wpQ_run (by rfl) ?_; apply Exists.intro; refine ⟨fun K Q hK w' hw' => ?_, ?_⟩; (focus (simp only [Act.put, List.setIfInBounds_toArray, List.set_cons_succ, List.set_cons_zero] at hK; go_wp2_with (refine (upTo_calls 0 (by omega) (by omega) _).mono ?_; rintro e w'' ⟨rfl, hb''⟩); exact hC2.out _ _ hw' hb'')); simp only [Act.put, List.setIfInBounds_toArray, List.set_cons_succ, List.set_cons_zero]
  refine Ear.Pl.wpQ_run (by rfl) ?_; apply Exists.intro; refine ⟨fun K Q hK w' hw' => ?_, ?_⟩; (focus (simp only [Act.put, List.setIfInBounds_toArray, List.set_cons_succ, List.set_cons_zero] at hK; go_wp2_with (refine (each_within v (Ear.full 0) _).mono ?_; rintro e w'' ⟨rfl, hb''⟩); exact hC2.out _ _ hw' hb'')); simp only [Act.put, List.setIfInBounds_toArray, List.set_cons_succ, List.set_cons_zero]
  (iterate 2 (refine Ear.Pl.wpQ_run (by rfl) ?_; apply Exists.intro; refine ⟨fun K Q hK w' hw' => ?_, ?_⟩; (focus (obtain ⟨hc', hf'⟩ := Ear.bcell (hC1.out w' hw'); simp only [Act.put, List.setIfInBounds_toArray, List.set_cons_succ, List.set_cons_zero] at hK; go_wp2; exact hw')); simp only [Act.put, List.setIfInBounds_toArray, List.set_cons_succ, List.set_cons_zero]))
  refine Ear.Pl.wpQ_nil ?_
  intro w1 hb1
  obtain ⟨hc1, hf1⟩ := Ear.bcell hb1; have hB1 : Below w.heap.size w w1 := Below.trans (by go_grown) (hb1.mono (by (try simp only [World.size_alloc, World.size_setCell, World.size_drew, setRow_size]); omega)); have hs1 := hB1.size; have hz1_0 : w.heap.size < w1.heap.size := (by have hq := hb1.size; (try simp only [World.size_alloc, World.size_setCell, World.size_drew] at hq); omega)
  clear hC1 hC2
  go_wp2
  go_ret
  exact ⟨by rw [Ear.beq_words, HC.out]; rfl, hB1⟩
set_option maxRecDepth 100000 in
set_option maxHeartbeats 1000000 in
theorem Within_hi (v : BitVec 128) (n : Int) (h0 : 100 < n) (w : World) : Calls Try.prog 63 #[.agg #[.int .u32 (Ear.wd (v) 0), .int .u32 (Ear.wd (v) 1), .int .u32 (Ear.wd (v) 2), .int .u32 (Ear.wd (v) 3)], .int .i64 n] w fun e w' => e = .returned (.bool (decide (v &&& Ear.full (Ear.clampN n) = v))) ∧ Below w.heap.size w w' := by
  have HC := Lib.hid (show Ear.clampN n = 100 by unfold Ear.clampN; rw [if_neg (by omega), if_pos (by omega)])
  have hq1 : (if n < 0 then (0 : Int) else n) = n := if_neg (by omega)
  have hq2 : (if 100 < n then (100 : Int) else n) = 100 := if_pos (by omega)
  go_enter Try.func63, Try.ntmps63
  go_wp2
  refine Ear.Pl.wp_region_qb 8 (by kernel_rfl) (by kernel_rfl) (fun C hC1 hC2 => ?_); simp only [List.take_succ_cons, List.take_zero, List.drop_succ_cons, List.drop_zero]
  (iterate 4 (refine Ear.Pl.wpQ_run (by rfl) ?_; apply Exists.intro; refine ⟨fun K Q hK w' hw' => ?_, ?_⟩; (focus (obtain ⟨hc', hf'⟩ := Ear.bcell (hC1.out w' hw'); simp only [Act.put, List.setIfInBounds_toArray, List.set_cons_succ, List.set_cons_zero] at hK; go_wp2; exact hw')); simp only [Act.put, List.setIfInBounds_toArray, List.set_cons_succ, List.set_cons_zero]))
  refine Ear.Pl.wpQ_run (by rfl) ?_; apply Exists.intro; refine ⟨fun K Q hK w' hw' => ?_, ?_⟩; (focus (simp only [Act.put, List.setIfInBounds_toArray, List.set_cons_succ, List.set_cons_zero] at hK; go_wp2_with (refine (upTo_calls 100 (by omega) (by omega) _).mono ?_; rintro e w'' ⟨rfl, hb''⟩); exact hC2.out _ _ hw' hb'')); simp only [Act.put, List.setIfInBounds_toArray, List.set_cons_succ, List.set_cons_zero]
  refine Ear.Pl.wpQ_run (by rfl) ?_; apply Exists.intro; refine ⟨fun K Q hK w' hw' => ?_, ?_⟩; (focus (simp only [Act.put, List.setIfInBounds_toArray, List.set_cons_succ, List.set_cons_zero] at hK; go_wp2_with (refine (each_within v (Ear.full 100) _).mono ?_; rintro e w'' ⟨rfl, hb''⟩); exact hC2.out _ _ hw' hb'')); simp only [Act.put, List.setIfInBounds_toArray, List.set_cons_succ, List.set_cons_zero]
  (iterate 2 (refine Ear.Pl.wpQ_run (by rfl) ?_; apply Exists.intro; refine ⟨fun K Q hK w' hw' => ?_, ?_⟩; (focus (obtain ⟨hc', hf'⟩ := Ear.bcell (hC1.out w' hw'); simp only [Act.put, List.setIfInBounds_toArray, List.set_cons_succ, List.set_cons_zero] at hK; go_wp2; exact hw')); simp only [Act.put, List.setIfInBounds_toArray, List.set_cons_succ, List.set_cons_zero]))
  refine Ear.Pl.wpQ_nil ?_
  intro w1 hb1
  obtain ⟨hc1, hf1⟩ := Ear.bcell hb1; have hB1 : Below w.heap.size w w1 := Below.trans (by go_grown) (hb1.mono (by (try simp only [World.size_alloc, World.size_setCell, World.size_drew, setRow_size]); omega)); have hs1 := hB1.size; have hz1_0 : w.heap.size < w1.heap.size := (by have hq := hb1.size; (try simp only [World.size_alloc, World.size_setCell, World.size_drew] at hq); omega)
  clear hC1 hC2
  go_wp2
  go_ret
  exact ⟨by rw [Ear.beq_words, HC.out]; rfl, hB1⟩
theorem Within_calls (v : BitVec 128) (n : Int) (w : World) : Calls Try.prog 63 #[.agg #[.int .u32 (Ear.wd (v) 0), .int .u32 (Ear.wd (v) 1), .int .u32 (Ear.wd (v) 2), .int .u32 (Ear.wd (v) 3)], .int .i64 n] w fun e w' => e = .returned (.bool (decide (v &&& Ear.full (Ear.clampN n) = v))) ∧ Below w.heap.size w w' := by
  by_cases h0 : n < 0
  · exact Within_lo v n h0 w
  · by_cases h1 : 100 < n
    · exact Within_hi v n h1 w
    · exact Within_mid v n (by omega) (by omega) w
set_option maxRecDepth 100000 in
set_option maxHeartbeats 1000000 in
theorem Has_yes (v : BitVec 128) (id : Int) (h0 : 0 ≤ id) (h1 : id < 100) (w : World) : Calls Try.prog 75 #[.agg #[.int .u32 (Ear.wd (v) 0), .int .u32 (Ear.wd (v) 1), .int .u32 (Ear.wd (v) 2), .int .u32 (Ear.wd (v) 3)], .int .i64 id] w fun e w' => e = .returned (.bool (v.getLsbD id.toNat)) ∧ Below w.heap.size w w' := by
  have hs := Ear.sel v (id / 32).toNat (by omega)
  go_enter Try.func75, Try.ntmps75
  go_wp2_with (go_at_call 76; refine (isId_yes _ (by omega) (by omega) _).mono ?_; rintro e w' ⟨rfl, rfl⟩)
  go_ret
  exact ⟨by rw [Ear.has_bit v id h0 (by omega)]; rfl, by go_grown⟩
set_option maxRecDepth 100000 in
set_option maxHeartbeats 1000000 in
theorem Has_no (v : BitVec 128) (id : Int) (h0 : id < 0 ∨ 100 ≤ id) (w : World) : Calls Try.prog 75 #[.agg #[.int .u32 (Ear.wd (v) 0), .int .u32 (Ear.wd (v) 1), .int .u32 (Ear.wd (v) 2), .int .u32 (Ear.wd (v) 3)], .int .i64 id] w fun e w' => e = .returned (.bool false) ∧ Below w.heap.size w w' := by
  go_enter Try.func75, Try.ntmps75
  go_wp2_with (go_at_call 76; refine (isId_no _ h0 _).mono ?_; rintro e w' ⟨rfl, rfl⟩)
  go_ret
  exact ⟨rfl, by go_grown⟩

end Go.Proofs.Ytklfkfnckdeifaa
end
section
namespace Go.Proofs.Ytklfkfnckdeifaa
set_option linter.unusedSimpArgs false
set_option linter.unusedVariables false
open Go.RowKit
attribute [local go_sem] eqSet
end Go.Proofs.Ytklfkfnckdeifaa
end
section
namespace Go.Proofs.Ytklfkfnckdeifaa
set_option linter.unusedSimpArgs false
set_option linter.unusedVariables false
open Go.RowKit
attribute [local go_sem] eqSet
end Go.Proofs.Ytklfkfnckdeifaa
end
section
namespace Go.Proofs.Ytklfkfnckdeifaa
set_option linter.unusedSimpArgs false
set_option linter.unusedVariables false
open Go.RowKit


end Go.Proofs.Ytklfkfnckdeifaa
end
section
namespace Go.Proofs.Ytklfkfnckdeifaa
set_option linter.unusedSimpArgs false
set_option linter.unusedVariables false
open Go.RowKit
attribute [local go_sem] eqSet
theorem idx4_0 (x0 x1 x2 x3 : Value) (w : World) : Sem.run Try.prog (Instr.index 30 (.agg #[x0, x1, x2, x3]) (.int .i64 0)) w = .ok x0 w := by kernel_rfl
theorem idx4_1 (x0 x1 x2 x3 : Value) (w : World) : Sem.run Try.prog (Instr.index 30 (.agg #[x0, x1, x2, x3]) (.int .i64 1)) w = .ok x1 w := by kernel_rfl
theorem idx4_2 (x0 x1 x2 x3 : Value) (w : World) : Sem.run Try.prog (Instr.index 30 (.agg #[x0, x1, x2, x3]) (.int .i64 2)) w = .ok x2 w := by kernel_rfl
theorem idx4_3 (x0 x1 x2 x3 : Value) (w : World) : Sem.run Try.prog (Instr.index 30 (.agg #[x0, x1, x2, x3]) (.int .i64 3)) w = .ok x3 w := by kernel_rfl

theorem sum4 (v : BitVec 128) : wrap64 (wrap64 (wrap64 (wrap64 ((Ear.cw v 0 : Nat) : Int) + ((Ear.cw v 1 : Nat) : Int)) + ((Ear.cw v 2 : Nat) : Int)) + ((Ear.cw v 3 : Nat) : Int)) = ((Ear.cnt128 v : Nat) : Int) := by
  have h := Ear.cnt128_words v
  have h0 : Ear.cw v 0 ≤ 32 := Ear.cnt_le 32 _
  have h1 : Ear.cw v 1 ≤ 32 := Ear.cnt_le 32 _
  have h2 : Ear.cw v 2 ≤ 32 := Ear.cnt_le 32 _
  have h3 : Ear.cw v 3 ≤ 32 := Ear.cnt_le 32 _
  simp only [wrap64]
  omega

attribute [local go_sem] idx4_0 idx4_1 idx4_2 idx4_3
end Go.Proofs.Ytklfkfnckdeifaa
end
section
namespace Go.Proofs.Ytklfkfnckdeifaa
set_option linter.unusedSimpArgs false
set_option linter.unusedVariables false
open Go.RowKit
attribute [local go_sem] eqSet
def ofL (l : List Int) : BitVec 128 := l.foldl (fun s x => Ear.clean s ||| Ear.one x.toNat) 0#128
def okL (l : List Int) : Prop := ∀ x ∈ l, 0 ≤ x ∧ x < 100
theorem ofL_snoc (l : List Int) (i : Nat) : ofL (l ++ [(i : Int)]) = Ear.clean (ofL l) ||| Ear.one i := by
  unfold ofL; rw [List.foldl_append]; rfl
theorem take_snocI (l : List Int) (k : Nat) (h : k < l.length) : l.take (k + 1) = l.take k ++ [l[k]] := List.take_succ_eq_append_getElem h
/-- Where a list of ints lies. -/
def Lies (l : List Int) (base : Option Addr) (w : World) : Prop := ∀ i, (h : i < l.length) → ∃ B o, base = some ⟨B, o, none⟩ ∧ B < w.heap.size ∧ w.cell? ⟨B, o + i, none⟩ = some (.int .i64 l[i])
theorem Lies.below {l : List Int} {base : Option Addr} {n : Nat} {w w' : World} (h : Lies l base w) (hb : Below n w w') (hn : ∀ i, i < l.length → ∀ B o, base = some ⟨B, o, none⟩ → B < n) : Lies l base w' := by
  intro i hi
  obtain ⟨B, o, e, hB, hc⟩ := h i hi
  exact ⟨B, o, e, by have := hb.size; omega, by rw [(hb.cell (p := ⟨B, o + i, none⟩) (hn i hi B o e))]; exact hc⟩
theorem Lies.read {l : List Int} {base : Option Addr} {w w' : World} (h : Lies l base w) (hb : Below w.heap.size w w') (k : Nat) (hk : k < l.length) (x : Int) (hx : l[k] = x) :
    ∃ B o, base = some ⟨B, o, none⟩ ∧ B < w.heap.size ∧ w'.cell? ⟨B, o + k, none⟩ = some (.int .i64 x) := by
  obtain ⟨B, o, e, hB, hc⟩ := h k hk
  exact ⟨B, o, e, hB, by rw [(hb.cell (p := ⟨B, o + k, none⟩) hB), hc, hx]⟩

/-- At a call's end: from here on a world of which this is known. -/
theorem bp_world {P : Program} {f : Func} {Q : Ending → World → Prop} {x : Exit} {a : Act} {w : World} (Φ : World → Prop) (h : Φ w) (k : ∀ w', Φ w' → bodyPost P f Q x a w') : bodyPost P f Q x a w := k w h

def ofPost (l : List Int) (w : World) (e : Ending) (w' : World) : Prop :=
  ((okL l ∧ e = .returned (.tuple #[.agg #[.int .u32 (Ear.wd (ofL l) 0), .int .u32 (Ear.wd (ofL l) 1), .int .u32 (Ear.wd (ofL l) 2), .int .u32 (Ear.wd (ofL l) 3)], .int .i64 0])) ∨ (¬ okL l ∧ e = .returned (.tuple #[.agg #[.int .u32 (Ear.wd (0#128) 0), .int .u32 (Ear.wd (0#128) 1), .int .u32 (Ear.wd (0#128) 2), .int .u32 (Ear.wd (0#128) 3)], .int .i64 30]))) ∧ Below w.heap.size w w'
theorem wrap_succ (k n : Nat) (h : k < n) (hn : n ≤ 5000) : wrap64 ((k : Int) + 1) = ((k + 1 : Nat) : Int) := by simp only [wrap64]; omega

end Go.Proofs.Ytklfkfnckdeifaa
end
