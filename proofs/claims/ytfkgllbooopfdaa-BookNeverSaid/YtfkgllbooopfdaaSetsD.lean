/-
  What the calls of package idset come to: tests and single ids.
-/
import Derived.Test.YtfkgllbooopfdaaSetsC
import Derived.WalkKit
import Derived.WalkSpells
import Derived.WalkLawsBesides
import Derived.Handy
import Derived.Lib.Hide
namespace Go.Proofs.Ytfkgllbooopfdaa
set_option linter.unusedSimpArgs false
set_option linter.unusedVariables false
open Go.RowKit
attribute [local go_sem] eqSet
set_option maxRecDepth 100000 in
set_option maxHeartbeats 1000000 in
theorem Within_mid (v : BitVec 128) (n : Int) (h0 : 0 ≤ n) (h1 : n ≤ 100) (w : World) : Calls Try.prog 30 #[.agg #[.int .u32 (Ear.wd (v) 0), .int .u32 (Ear.wd (v) 1), .int .u32 (Ear.wd (v) 2), .int .u32 (Ear.wd (v) 3)], .int .i64 n] w fun e w' => e = .returned (.bool (decide (v &&& Ear.full (Ear.clampN n) = v))) ∧ Below w.heap.size w w' := by
  have HC := Lib.hid (show Ear.clampN n = n.toNat by unfold Ear.clampN; rw [if_neg (by omega), if_neg (by omega)])
  have hq1 : (if n < 0 then (0 : Int) else n) = n := if_neg (by omega)
  have hq2 : (if 100 < n then (100 : Int) else n) = n := if_neg (by omega)
  go_enter Try.func30, Try.ntmps30
  go_wp2
  refine Ear.Pl.wp_region_qb 8 (by kernel_rfl) (by kernel_rfl) (fun C hC1 hC2 => ?_); simp only [List.take_succ_cons, List.take_zero, List.drop_succ_cons, List.drop_zero]
  (iterate 4 (refine Ear.Pl.wpQ_run (by rfl) ?_; apply Exists.intro; refine ⟨fun K Q hK w' hw' => ?_, ?_⟩; (focus (obtain ⟨hc', hf'⟩ := Ear.bcell (hC1.out w' hw'); simp only [Act.put, List.setIfInBounds_toArray, List.set_cons_succ, List.set_cons_zero] at hK; go_wp2; exact hw')); simp only [Act.put, List.setIfInBounds_toArray, List.set_cons_succ, List.set_cons_zero]))
  refine Ear.Pl.wpQ_run (by rfl) ?_; apply Exists.intro; refine ⟨fun K Q hK w' hw' => ?_, ?_⟩; (focus (simp only [Act.put, List.setIfInBounds_toArray, List.set_cons_succ, List.set_cons_zero] at hK; go_wp2_with (refine (upTo_calls n (by omega) (by omega) _).mono ?_; rintro e w'' ⟨rfl, hb''⟩); exact hC2.out _ _ hw' hb'')); simp only [Act.put, List.setIfInBounds_toArray, List.set_cons_succ, List.set_cons_zero]
  refine Ear.Pl.wpQ_run (by rfl) ?_; apply Exists.intro; refine ⟨fun K Q hK w' hw' => ?_, ?_⟩; (focus (simp only [Act.put, List.setIfInBounds_toArray, List.set_cons_succ, List.set_cons_zero] at hK; go_wp2_with (refine (each_within v (Ear.full n.toNat) _).mono ?_; rintro e w'' ⟨rfl, hb''⟩); exact hC2.out _ _ hw' hb'')); simp only [Act.put, List.setIfInBounds_toArray, List.set_cons_succ, List.set_cons_zero]
  (iterate 2 (refine Ear.Pl.wpQ_run (by rfl) ?_; apply Exists.intro; refine ⟨fun K Q hK w' hw' => ?_, ?_⟩; (focus (obtain ⟨hc', hf'⟩ := Ear.bcell (hC1.out w' hw'); simp only [Act.put, List.setIfInBounds_toArray, List.set_cons_succ, List.set_cons_zero] at hK; go_wp2; exact hw')); simp only [Act.put, List.setIfInBounds_toArray, List.set_cons_succ, List.set_cons_zero]))
  refine Ear.Pl.wpQ_nil ?_
  intro w1 hb1
  obtain ⟨hc1, hf1⟩ := Ear.bcell hb1; have hB1 : Below w.heap.size w w1 := Below.trans (by go_grown) (hb1.mono (by (try simp only [World.size_alloc, World.size_setCell, World.size_drew, setRow_size]); omega)); have hs1 := hB1.size; have hz1_0 : w.heap.size < w1.heap.size := (by have hq := hb1.size; (try simp only [World.size_alloc, World.size_setCell, World.size_drew] at hq); omega)
  clear hC1 hC2
  go_wp2
  go_ret
  exact ⟨by rw [Ear.beq_words, HC.out]; rfl, hB1⟩
set_option maxRecDepth 100000 in
set_option maxHeartbeats 1000000 in
theorem Within_lo (v : BitVec 128) (n : Int) (h0 : n < 0) (w : World) : Calls Try.prog 30 #[.agg #[.int .u32 (Ear.wd (v) 0), .int .u32 (Ear.wd (v) 1), .int .u32 (Ear.wd (v) 2), .int .u32 (Ear.wd (v) 3)], .int .i64 n] w fun e w' => e = .returned (.bool (decide (v &&& Ear.full (Ear.clampN n) = v))) ∧ Below w.heap.size w w' := by
  have HC := Lib.hid (show Ear.clampN n = 0 by unfold Ear.clampN; rw [if_pos (by omega)])
  have hq1 : (if n < 0 then (0 : Int) else n) = 0 := if_pos (by omega)
  go_enter Try.func30, Try.ntmps30
  go_wp2
  refine Ear.Pl.wp_region_qb 8 (by kernel_rfl) (by kernel_rfl) (fun C hC1 hC2 => ?_); simp only [List.take_succ_cons, List.take_zero, List.drop_succ_cons, List.drop_zero]
  (iterate 4 (refine Ear.Pl.wpQ_run (by rfl) ?_; apply Exists.intro; refine ⟨fun K Q hK w' hw' => ?_, ?_⟩; (focus (obtain ⟨hc', hf'⟩ := Ear.bcell (hC1.out w' hw'); simp only [Act.put, List.setIfInBounds_toArray, List.set_cons_succ, List.set_cons_zero] at hK; go_wp2; exact hw')); simp only [Act.put, List.setIfInBounds_toArray, List.set_cons_succ, List.set_cons_zero]))
  refine Ear.Pl.wpQ_run (by rfl) ?_; apply Exists.intro; refine ⟨fun K Q hK w' hw' => ?_, ?_⟩; (focus (simp only [Act.put, List.setIfInBounds_toArray, List.set_cons_succ, List.set_cons_zero] at hK; go_wp2_with (refine (upTo_calls 0 (by omega) (by omega) _).mono ?_; rintro e w'' ⟨rfl, hb''⟩); exact hC2.out _ _ hw' hb'')); simp only [Act.put, List.setIfInBounds_toArray, List.set_cons_succ, List.set_cons_zero]
  refine Ear.Pl.wpQ_run (by rfl) ?_; apply Exists.intro; refine ⟨fun K Q hK w' hw' => ?_, ?_⟩; (focus (simp only [Act.put, List.setIfInBounds_toArray, List.set_cons_succ, List.set_cons_zero] at hK; go_wp2_with (refine (each_within v (Ear.full 0) _).mono ?_; rintro e w'' ⟨rfl, hb''⟩); exact hC2.out _ _ hw' hb'')); simp only [Act.put, List.setIfInBounds_toArray, List.set_cons_succ, List.set_cons_zero]
  (iterate 2 (refine Ear.Pl.wpQ_run (by rfl) ?_; apply Exists.intro; refine ⟨fun K Q hK w' hw' => ?_, ?_⟩; (focus (obtain ⟨hc', hf'⟩ := Ear.bcell (hC1.out w' hw'); simp only [Act.put, List.setIfInBounds_toArray, List.set_cons_succ, List.set_cons_zero] at hK; go_wp2; exact hw')); simp only [Act.put, List.setIfInBounds_toArray, List.set_cons_succ, List.set_cons_zero]))
  refine Ear.Pl.wpQ_nil ?_
  intro w1 hb1
  obtain ⟨hc1, hf1⟩ := Ear.bcell hb1; have hB1 : Below w.heap.size w w1 := Below.trans (by go_grown) (hb1.mono (by (try simp only [World.size_alloc, World.size_setCell, World.size_drew, setRow_size]); omega)); have hs1 := hB1.size; have hz1_0 : w.heap.size < w1.heap.size := (by have hq := hb1.size; (try simp only [World.size_alloc, World.size_setCell, World.size_drew] at hq); omega)
  clear hC1 hC2
  go_wp2
  go_ret
  exact ⟨by rw [Ear.beq_words, HC.out]; rfl, hB1⟩
set_option maxRecDepth 100000 in
set_option maxHeartbeats 1000000 in
theorem Within_hi (v : BitVec 128) (n : Int) (h0 : 100 < n) (w : World) : Calls Try.prog 30 #[.agg #[.int .u32 (Ear.wd (v) 0), .int .u32 (Ear.wd (v) 1), .int .u32 (Ear.wd (v) 2), .int .u32 (Ear.wd (v) 3)], .int .i64 n] w fun e w' => e = .returned (.bool (decide (v &&& Ear.full (Ear.clampN n) = v))) ∧ Below w.heap.size w w' := by
  have HC := Lib.hid (show Ear.clampN n = 100 by unfold Ear.clampN; rw [if_neg (by omega), if_pos (by omega)])
  have hq1 : (if n < 0 then (0 : Int) else n) = n := if_neg (by omega)
  have hq2 : (if 100 < n then (100 : Int) else n) = 100 := if_pos (by omega)
  go_enter Try.func30, Try.ntmps30
  go_wp2
  refine Ear.Pl.wp_region_qb 8 (by kernel_rfl) (by kernel_rfl) (fun C hC1 hC2 => ?_); simp only [List.take_succ_cons, List.take_zero, List.drop_succ_cons, List.drop_zero]
  (iterate 4 (refine Ear.Pl.wpQ_run (by rfl) ?_; apply Exists.intro; refine ⟨fun K Q hK w' hw' => ?_, ?_⟩; (focus (obtain ⟨hc', hf'⟩ := Ear.bcell (hC1.out w' hw'); simp only [Act.put, List.setIfInBounds_toArray, List.set_cons_succ, List.set_cons_zero] at hK; go_wp2; exact hw')); simp only [Act.put, List.setIfInBounds_toArray, List.set_cons_succ, List.set_cons_zero]))
  refine Ear.Pl.wpQ_run (by rfl) ?_; apply Exists.intro; refine ⟨fun K Q hK w' hw' => ?_, ?_⟩; (focus (simp only [Act.put, List.setIfInBounds_toArray, List.set_cons_succ, List.set_cons_zero] at hK; go_wp2_with (refine (upTo_calls 100 (by omega) (by omega) _).mono ?_; rintro e w'' ⟨rfl, hb''⟩); exact hC2.out _ _ hw' hb'')); simp only [Act.put, List.setIfInBounds_toArray, List.set_cons_succ, List.set_cons_zero]
  refine Ear.Pl.wpQ_run (by rfl) ?_; apply Exists.intro; refine ⟨fun K Q hK w' hw' => ?_, ?_⟩; (focus (simp only [Act.put, List.setIfInBounds_toArray, List.set_cons_succ, List.set_cons_zero] at hK; go_wp2_with (refine (each_within v (Ear.full 100) _).mono ?_; rintro e w'' ⟨rfl, hb''⟩); exact hC2.out _ _ hw' hb'')); simp only [Act.put, List.setIfInBounds_toArray, List.set_cons_succ, List.set_cons_zero]
  (iterate 2 (refine Ear.Pl.wpQ_run (by rfl) ?_; apply Exists.intro; refine ⟨fun K Q hK w' hw' => ?_, ?_⟩; (focus (obtain ⟨hc', hf'⟩ := Ear.bcell (hC1.out w' hw'); simp only [Act.put, List.setIfInBounds_toArray, List.set_cons_succ, List.set_cons_zero] at hK; go_wp2; exact hw')); simp only [Act.put, List.setIfInBounds_toArray, List.set_cons_succ, List.set_cons_zero]))
  refine Ear.Pl.wpQ_nil ?_
  intro w1 hb1
  obtain ⟨hc1, hf1⟩ := Ear.bcell hb1; have hB1 : Below w.heap.size w w1 := Below.trans (by go_grown) (hb1.mono (by (try simp only [World.size_alloc, World.size_setCell, World.size_drew, setRow_size]); omega)); have hs1 := hB1.size; have hz1_0 : w.heap.size < w1.heap.size := (by have hq := hb1.size; (try simp only [World.size_alloc, World.size_setCell, World.size_drew] at hq); omega)
  clear hC1 hC2
  go_wp2
  go_ret
  exact ⟨by rw [Ear.beq_words, HC.out]; rfl, hB1⟩
theorem Within_calls (v : BitVec 128) (n : Int) (w : World) : Calls Try.prog 30 #[.agg #[.int .u32 (Ear.wd (v) 0), .int .u32 (Ear.wd (v) 1), .int .u32 (Ear.wd (v) 2), .int .u32 (Ear.wd (v) 3)], .int .i64 n] w fun e w' => e = .returned (.bool (decide (v &&& Ear.full (Ear.clampN n) = v))) ∧ Below w.heap.size w w' := by
  by_cases h0 : n < 0
  · exact Within_lo v n h0 w
  · by_cases h1 : 100 < n
    · exact Within_hi v n h1 w
    · exact Within_mid v n (by omega) (by omega) w
set_option maxRecDepth 100000 in
set_option maxHeartbeats 1000000 in
theorem Has_yes (v : BitVec 128) (id : Int) (h0 : 0 ≤ id) (h1 : id < 100) (w : World) : Calls Try.prog 21 #[.agg #[.int .u32 (Ear.wd (v) 0), .int .u32 (Ear.wd (v) 1), .int .u32 (Ear.wd (v) 2), .int .u32 (Ear.wd (v) 3)], .int .i64 id] w fun e w' => e = .returned (.bool (v.getLsbD id.toNat)) ∧ Below w.heap.size w w' := by
  have hs := Ear.sel v (id / 32).toNat (by omega)
  go_enter Try.func21, Try.ntmps21
  go_wp2_with (go_at_call 47; refine (isId_yes _ (by omega) (by omega) _).mono ?_; rintro e w' ⟨rfl, rfl⟩)
  go_ret
  exact ⟨by rw [Ear.has_bit v id h0 (by omega)]; rfl, by go_grown⟩
set_option maxRecDepth 100000 in
set_option maxHeartbeats 1000000 in
theorem Has_no (v : BitVec 128) (id : Int) (h0 : id < 0 ∨ 100 ≤ id) (w : World) : Calls Try.prog 21 #[.agg #[.int .u32 (Ear.wd (v) 0), .int .u32 (Ear.wd (v) 1), .int .u32 (Ear.wd (v) 2), .int .u32 (Ear.wd (v) 3)], .int .i64 id] w fun e w' => e = .returned (.bool false) ∧ Below w.heap.size w w' := by
  go_enter Try.func21, Try.ntmps21
  go_wp2_with (go_at_call 47; refine (isId_no _ h0 _).mono ?_; rintro e w' ⟨rfl, rfl⟩)
  go_ret
  exact ⟨rfl, by go_grown⟩

end Go.Proofs.Ytfkgllbooopfdaa
