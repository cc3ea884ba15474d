/-
  What the calls of package idset come to: one id put in or taken out.
-/
import Derived.Test.YtfkgllbooopfdaaSetsD
import Derived.WalkKit
import Derived.WalkSpells
import Derived.WalkLawsBesides
import Derived.Handy
import Derived.Lib.Hide
namespace Go.Proofs.Ytfkgllbooopfdaa
set_option linter.unusedSimpArgs false
set_option linter.unusedVariables false
open Go.RowKit
attribute [local go_sem] eqSet
set_option maxRecDepth 100000 in
set_option maxHeartbeats 2000000 in
theorem With_yes (v : BitVec 128) (i : Nat) (h : i < 100) (w : World) : Calls Try.prog 34 #[.agg #[.int .u32 (Ear.wd (v) 0), .int .u32 (Ear.wd (v) 1), .int .u32 (Ear.wd (v) 2), .int .u32 (Ear.wd (v) 3)], .int .i64 (i : Int)] w fun e w' => e = .returned (.tuple #[.agg #[.int .u32 (Ear.wd (Ear.clean v ||| Ear.one i) 0), .int .u32 (Ear.wd (Ear.clean v ||| Ear.one i) 1), .int .u32 (Ear.wd (Ear.clean v ||| Ear.one i) 2), .int .u32 (Ear.wd (Ear.clean v ||| Ear.one i) 3)], .int .i64 0]) ∧ Below w.heap.size w w' := by
  have hcase : i / 32 = 0 ∨ i / 32 = 1 ∨ i / 32 = 2 ∨ i / 32 = 3 := by omega
  rcases hcase with hk | hk | hk | hk
  all_goals
    have HK := Lib.hid hk
    clear hk
    go_enter Try.func34, Try.ntmps34
    go_wp2_with (first | (go_at_call 47; refine (isId_yes _ (by omega) (by omega) _).mono ?_; rintro e w' ⟨rfl, rfl⟩) | (go_at_call 44; refine (Clean_calls _ _).mono ?_; rintro e w1 ⟨rfl, hb1⟩; obtain ⟨hc1, hf1⟩ := Ear.bcell hb1; have hB1 : Below w.heap.size w w1 := Below.trans (by go_grown) (hb1.mono (by (try simp only [World.size_alloc, World.size_setCell, World.size_drew, setRow_size]); omega)); have hs1 := hB1.size; have hz1_0 : w.heap.size < w1.heap.size := (by have hq := hb1.size; (try simp only [World.size_alloc, World.size_setCell, World.size_drew] at hq); omega); have hz1_1 : w.heap.size + 1 < w1.heap.size := (by have hq := hb1.size; (try simp only [World.size_alloc, World.size_setCell, World.size_drew] at hq); omega)))
    refine Ear.wp_world (fun W => Below w.heap.size w W ∧ Ear.Blk W w.heap.size 35 [.int .u32 (Ear.wd (Ear.clean v) 0), .int .u32 (Ear.wd (Ear.clean v) 1), .int .u32 (Ear.wd (Ear.clean v) 2), .int .u32 (Ear.wd (Ear.clean v) 3)] ∧
      Ear.Blk W (w.heap.size + 1) 35 [.int .u32 0, .int .u32 0, .int .u32 0, .int .u32 0]) ⟨?_, ?_, ?_⟩ ?_
    · go_grown
    · (repeat' (first | (show Ear.Blk _ _ _ _; with_reducible assumption) | ((with_reducible apply Ear.Blk.new'); (simp only [World.size_alloc, World.size_setCell, World.size_drew, setRow_size]; done)) | (with_reducible apply Ear.Blk.alloc) | (with_reducible apply Ear.Blk.drew) | (with_reducible apply Ear.Blk.set') | (with_reducible apply Ear.Blk.setRow') | (with_reducible apply Ear.Blk.otherRow) | (with_reducible apply Ear.Blk.other) | (with_reducible apply Ear.Blk.below (hb := hb1)) | (show List.set _ _ _ = _; first | exact HSET.out | exact Ear.set_xor _ _ (by omega) | exact Ear.set_or _ _ (by omega) | rfl) | (show _ ≠ _; (try simp only [World.size_alloc, World.size_setCell, World.size_drew, setRow_size]); omega) | (show _ < _; (try simp only [World.size_alloc, World.size_setCell, World.size_drew, setRow_size]); omega)))
    · (repeat' (first | (show Ear.Blk _ _ _ _; with_reducible assumption) | ((with_reducible apply Ear.Blk.new'); (simp only [World.size_alloc, World.size_setCell, World.size_drew, setRow_size]; done)) | (with_reducible apply Ear.Blk.alloc) | (with_reducible apply Ear.Blk.drew) | (with_reducible apply Ear.Blk.set') | (with_reducible apply Ear.Blk.setRow') | (with_reducible apply Ear.Blk.otherRow) | (with_reducible apply Ear.Blk.other) | (with_reducible apply Ear.Blk.below (hb := hb1)) | (show List.set _ _ _ = _; first | exact HSET.out | exact Ear.set_xor _ _ (by omega) | exact Ear.set_or _ _ (by omega) | rfl) | (show _ ≠ _; (try simp only [World.size_alloc, World.size_setCell, World.size_drew, setRow_size]); omega) | (show _ < _; (try simp only [World.size_alloc, World.size_setCell, World.size_drew, setRow_size]); omega)))
    clear hb1 hc1 hf1 hB1 hs1 hz1_0 hz1_1
    rintro W ⟨hB, hb0, hb1⟩
    have hk' := HK.out
    have hb0_c0 := hb0.cell 0; have hb0_f0 := hb0.frozen 0; have hb0_c1 := hb0.cell 1; have hb0_f1 := hb0.frozen 1; have hb0_c2 := hb0.cell 2; have hb0_f2 := hb0.frozen 2; have hb0_c3 := hb0.cell 3; have hb0_f3 := hb0.frozen 3
    have hb1_c0 := hb1.cell 0; have hb1_f0 := hb1.frozen 0; have hb1_c1 := hb1.cell 1; have hb1_f1 := hb1.frozen 1; have hb1_c2 := hb1.cell 2; have hb1_f2 := hb1.frozen 2; have hb1_c3 := hb1.cell 3; have hb1_f3 := hb1.frozen 3
    refine Ear.Pl.wp_region_qs 8 (by kernel_rfl) (by kernel_rfl) ?_; simp only [List.take_succ_cons, List.take_zero, List.drop_succ_cons, List.drop_zero]
    (iterate 8 (refine Ear.Pl.wpQ_run (by rfl) ?_; apply Exists.intro; refine ⟨fun K Q hK w' hw' => ?_, ?_⟩; (focus (subst hw'; simp only [Act.put, List.setIfInBounds_toArray, List.set_cons_succ, List.set_cons_zero] at hK; go_wp2; try rfl)); simp only [Act.put, List.setIfInBounds_toArray, List.set_cons_succ, List.set_cons_zero]))
    refine Ear.Pl.wpQ_nil ?_
    rintro w' rfl
    go_wp2
    refine bodyPost_ret (v := .tuple #[.agg #[.int .u32 (Ear.wd (Ear.clean v ||| Ear.one i) 0), .int .u32 (Ear.wd (Ear.clean v ||| Ear.one i) 1), .int .u32 (Ear.wd (Ear.clean v ||| Ear.one i) 2), .int .u32 (Ear.wd (Ear.clean v ||| Ear.one i) 3)], .int .i64 0]) (by simp [results, Try.results34, go_sem, hb0_c0, hb0_c1, hb0_c2, hb0_c3, hb1_c0, hb1_c1, hb1_c2, hb1_c3]; refine ⟨?_, ?_, ?_, ?_⟩ <;> first | exact Ear.or_same _ i _ (by omega) HK.out | (symm; exact Ear.or_other _ i _ (by omega))) rfl ⟨rfl, ?_⟩
    go_grown

set_option maxRecDepth 100000 in
set_option maxHeartbeats 1000000 in
theorem With_no (v : BitVec 128) (i : Int) (h : i < 0 ∨ 100 ≤ i) (w : World) : Calls Try.prog 34 #[.agg #[.int .u32 (Ear.wd (v) 0), .int .u32 (Ear.wd (v) 1), .int .u32 (Ear.wd (v) 2), .int .u32 (Ear.wd (v) 3)], .int .i64 i] w fun e w' => e = .returned (.tuple #[.agg #[.int .u32 (Ear.wd (0#128) 0), .int .u32 (Ear.wd (0#128) 1), .int .u32 (Ear.wd (0#128) 2), .int .u32 (Ear.wd (0#128) 3)], .int .i64 30]) ∧ Below w.heap.size w w' := by
  go_enter Try.func34, Try.ntmps34
  go_wp2_with (first | (go_at_call 47; refine (isId_no _ h _).mono ?_; rintro e w' ⟨rfl, rfl⟩))
  refine bodyPost_ret (v := .tuple #[.agg #[.int .u32 (Ear.wd (0#128) 0), .int .u32 (Ear.wd (0#128) 1), .int .u32 (Ear.wd (0#128) 2), .int .u32 (Ear.wd (0#128) 3)], .int .i64 30]) (by simp [results, Try.results34, go_sem, Ear.wd_zero]) rfl ⟨rfl, ?_⟩
  go_grown
end Go.Proofs.Ytfkgllbooopfdaa
