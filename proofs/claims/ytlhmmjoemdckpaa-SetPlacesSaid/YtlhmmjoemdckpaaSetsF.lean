/-
  What the calls of package idset come to: the order.
-/
import Derived.Test.YtlhmmjoemdckpaaSetsE
import Derived.WalkKit
import Derived.WalkSpells
import Derived.WalkLawsBesides
import Derived.Handy
import Derived.Lib.Hide
namespace Go.Proofs.Ytlhmmjoemdckpaa
set_option linter.unusedSimpArgs false
set_option linter.unusedVariables false
open Go.RowKit
attribute [local go_sem] eqSet
set_option maxRecDepth 100000 in
set_option maxHeartbeats 4000000 in
theorem Order_calls (a b : BitVec 128) (w : World) : Calls Try.prog 29 #[.agg #[.int .u32 (Ear.wd (a) 0), .int .u32 (Ear.wd (a) 1), .int .u32 (Ear.wd (a) 2), .int .u32 (Ear.wd (a) 3)], .agg #[.int .u32 (Ear.wd (b) 0), .int .u32 (Ear.wd (b) 1), .int .u32 (Ear.wd (b) 2), .int .u32 (Ear.wd (b) 3)]] w fun e w' => e = .returned (.int .i64 (Ear.ordI (Ear.clean a) (Ear.clean b))) ∧ Below w.heap.size w w' := by
  go_enter Try.func29, Try.ntmps29
  go_wp2
  refine Ear.Pl.wp_region_qb 4 (by kernel_rfl) (by kernel_rfl) (fun C hC1 hC2 => ?_); simp only [List.take_succ_cons, List.take_zero, List.drop_succ_cons, List.drop_zero]
  (iterate 1 (refine Ear.Pl.wpQ_run (by rfl) ?_; apply Exists.intro; refine ⟨fun K Q hK w' hw' => ?_, ?_⟩; (focus (obtain ⟨hc', hf'⟩ := Ear.bcell (hC1.out w' hw'); simp only [Act.put, List.setIfInBounds_toArray, List.set_cons_succ, List.set_cons_zero] at hK; go_wp2; exact hw')); simp only [Act.put, List.setIfInBounds_toArray, List.set_cons_succ, List.set_cons_zero]))
  refine Ear.Pl.wpQ_run (by rfl) ?_; apply Exists.intro; refine ⟨fun K Q hK w' hw' => ?_, ?_⟩; (focus (simp only [Act.put, List.setIfInBounds_toArray, List.set_cons_succ, List.set_cons_zero] at hK; go_wp2_with (refine (Clean_calls a _).mono ?_; rintro e w'' ⟨rfl, hb''⟩); exact hC2.out _ _ hw' hb'')); simp only [Act.put, List.setIfInBounds_toArray, List.set_cons_succ, List.set_cons_zero]
  (iterate 1 (refine Ear.Pl.wpQ_run (by rfl) ?_; apply Exists.intro; refine ⟨fun K Q hK w' hw' => ?_, ?_⟩; (focus (obtain ⟨hc', hf'⟩ := Ear.bcell (hC1.out w' hw'); simp only [Act.put, List.setIfInBounds_toArray, List.set_cons_succ, List.set_cons_zero] at hK; go_wp2; exact hw')); simp only [Act.put, List.setIfInBounds_toArray, List.set_cons_succ, List.set_cons_zero]))
  refine Ear.Pl.wpQ_run (by rfl) ?_; apply Exists.intro; refine ⟨fun K Q hK w' hw' => ?_, ?_⟩; (focus (simp only [Act.put, List.setIfInBounds_toArray, List.set_cons_succ, List.set_cons_zero] at hK; go_wp2_with (refine (Clean_calls b _).mono ?_; rintro e w'' ⟨rfl, hb''⟩); exact hC2.out _ _ hw' hb'')); simp only [Act.put, List.setIfInBounds_toArray, List.set_cons_succ, List.set_cons_zero]
  refine Ear.Pl.wpQ_nil ?_
  intro w1 hb1
  have hB1 : Below w.heap.size w w1 := Below.trans (by go_grown) (hb1.mono (by (try simp only [World.size_alloc, World.size_setCell, World.size_drew, setRow_size]); omega)); have hs1 := hB1.size; have hx_1 : Ear.Blk w1 (w.heap.size) 24 ([.int .u32 (Ear.wd (a) 0), .int .u32 (Ear.wd (a) 1), .int .u32 (Ear.wd (a) 2), .int .u32 (Ear.wd (a) 3)]) := (by (repeat' (first | (show Ear.Blk _ _ _ _; with_reducible assumption) | ((with_reducible apply Ear.Blk.new'); (simp only [World.size_alloc, World.size_setCell, World.size_drew, setRow_size]; done)) | (with_reducible apply Ear.Blk.alloc) | (with_reducible apply Ear.Blk.drew) | (with_reducible apply Ear.Blk.set') | (with_reducible apply Ear.Blk.setRow') | (with_reducible apply Ear.Blk.otherRow) | (with_reducible apply Ear.Blk.other) | (with_reducible apply Ear.Blk.below (hb := hb1)) | (show List.set _ _ _ = _; first | exact HSET.out | exact Ear.set_xor _ _ (by omega) | exact Ear.set_or _ _ (by omega) | rfl) | (show _ ≠ _; (try simp only [World.size_alloc, World.size_setCell, World.size_drew, setRow_size]); omega) | (show _ < _; (try simp only [World.size_alloc, World.size_setCell, World.size_drew, setRow_size]); omega)))); have hy_1 : Ear.Blk w1 (w.heap.size + 1) 24 ([.int .u32 (Ear.wd (b) 0), .int .u32 (Ear.wd (b) 1), .int .u32 (Ear.wd (b) 2), .int .u32 (Ear.wd (b) 3)]) := (by (repeat' (first | (show Ear.Blk _ _ _ _; with_reducible assumption) | ((with_reducible apply Ear.Blk.new'); (simp only [World.size_alloc, World.size_setCell, World.size_drew, setRow_size]; done)) | (with_reducible apply Ear.Blk.alloc) | (with_reducible apply Ear.Blk.drew) | (with_reducible apply Ear.Blk.set') | (with_reducible apply Ear.Blk.setRow') | (with_reducible apply Ear.Blk.otherRow) | (with_reducible apply Ear.Blk.other) | (with_reducible apply Ear.Blk.below (hb := hb1)) | (show List.set _ _ _ = _; first | exact HSET.out | exact Ear.set_xor _ _ (by omega) | exact Ear.set_or _ _ (by omega) | rfl) | (show _ ≠ _; (try simp only [World.size_alloc, World.size_setCell, World.size_drew, setRow_size]); omega) | (show _ < _; (try simp only [World.size_alloc, World.size_setCell, World.size_drew, setRow_size]); omega)))); clear hb1; have hx_1_l := hx_1.lt; have hx_1_c0 := hx_1.cell 0; have hx_1_f0 := hx_1.frozen 0; have hx_1_c1 := hx_1.cell 1; have hx_1_f1 := hx_1.frozen 1; have hx_1_c2 := hx_1.cell 2; have hx_1_f2 := hx_1.frozen 2; have hx_1_c3 := hx_1.cell 3; have hx_1_f3 := hx_1.frozen 3; have hy_1_l := hy_1.lt; have hy_1_c0 := hy_1.cell 0; have hy_1_f0 := hy_1.frozen 0; have hy_1_c1 := hy_1.cell 1; have hy_1_f1 := hy_1.frozen 1; have hy_1_c2 := hy_1.cell 2; have hy_1_f2 := hy_1.frozen 2; have hy_1_c3 := hy_1.cell 3; have hy_1_f3 := hy_1.frozen 3
  clear hC1 hC2
  go_wp2
  refine Ear.wp_world (fun W => Below w.heap.size w W ∧ Ear.Blk W (w.heap.size) 24 ([.int .u32 (Ear.wd (Ear.clean a) 0), .int .u32 (Ear.wd (Ear.clean a) 1), .int .u32 (Ear.wd (Ear.clean a) 2), .int .u32 (Ear.wd (Ear.clean a) 3)]) ∧ Ear.Blk W (w.heap.size + 1) 24 ([.int .u32 (Ear.wd (Ear.clean b) 0), .int .u32 (Ear.wd (Ear.clean b) 1), .int .u32 (Ear.wd (Ear.clean b) 2), .int .u32 (Ear.wd (Ear.clean b) 3)])) ⟨by go_grown, by (repeat' (first | (show Ear.Blk _ _ _ _; with_reducible assumption) | ((with_reducible apply Ear.Blk.new'); (simp only [World.size_alloc, World.size_setCell, World.size_drew, setRow_size]; done)) | (with_reducible apply Ear.Blk.alloc) | (with_reducible apply Ear.Blk.drew) | (with_reducible apply Ear.Blk.set') | (with_reducible apply Ear.Blk.setRow') | (with_reducible apply Ear.Blk.otherRow) | (with_reducible apply Ear.Blk.other) | (show List.set _ _ _ = _; first | exact HSET.out | exact Ear.set_xor _ _ (by omega) | exact Ear.set_or _ _ (by omega) | rfl) | (show _ ≠ _; (try simp only [World.size_alloc, World.size_setCell, World.size_drew, setRow_size]); omega) | (show _ < _; (try simp only [World.size_alloc, World.size_setCell, World.size_drew, setRow_size]); omega))), by (repeat' (first | (show Ear.Blk _ _ _ _; with_reducible assumption) | ((with_reducible apply Ear.Blk.new'); (simp only [World.size_alloc, World.size_setCell, World.size_drew, setRow_size]; done)) | (with_reducible apply Ear.Blk.alloc) | (with_reducible apply Ear.Blk.drew) | (with_reducible apply Ear.Blk.set') | (with_reducible apply Ear.Blk.setRow') | (with_reducible apply Ear.Blk.otherRow) | (with_reducible apply Ear.Blk.other) | (show List.set _ _ _ = _; first | exact HSET.out | exact Ear.set_xor _ _ (by omega) | exact Ear.set_or _ _ (by omega) | rfl) | (show _ ≠ _; (try simp only [World.size_alloc, World.size_setCell, World.size_drew, setRow_size]); omega) | (show _ < _; (try simp only [World.size_alloc, World.size_setCell, World.size_drew, setRow_size]); omega)))⟩ ?_; rintro w2 ⟨hB2, hx_2, hy_2⟩; have hs2 := hB2.size; have hx_2_l := hx_2.lt; have hx_2_c0 := hx_2.cell 0; have hx_2_f0 := hx_2.frozen 0; have hx_2_c1 := hx_2.cell 1; have hx_2_f1 := hx_2.frozen 1; have hx_2_c2 := hx_2.cell 2; have hx_2_f2 := hx_2.frozen 2; have hx_2_c3 := hx_2.cell 3; have hx_2_f3 := hx_2.frozen 3; have hy_2_l := hy_2.lt; have hy_2_c0 := hy_2.cell 0; have hy_2_f0 := hy_2.frozen 0; have hy_2_c1 := hy_2.cell 1; have hy_2_f1 := hy_2.frozen 1; have hy_2_c2 := hy_2.cell 2; have hy_2_f2 := hy_2.frozen 2; have hy_2_c3 := hy_2.cell 3; have hy_2_f3 := hy_2.frozen 3
  refine wp_loop_rounds 5 ?_
  rw [rounds_succ]
  go_wp2
  refine Ear.Pl.wp_region_qs 7 (by kernel_rfl) (by kernel_rfl) ?_; simp only [List.take_succ_cons, List.take_zero, List.drop_succ_cons, List.drop_zero]
  (iterate 7 (refine Ear.Pl.wpQ_run (by rfl) ?_; apply Exists.intro; refine ⟨fun K Q hK w' hw' => ?_, ?_⟩; (focus (subst hw'; simp only [Act.put, List.setIfInBounds_toArray, List.set_cons_succ, List.set_cons_zero] at hK; go_wp2; try rfl)); simp only [Act.put, List.setIfInBounds_toArray, List.set_cons_succ, List.set_cons_zero]))
  refine Ear.Pl.wpQ_nil ?_
  rintro w' rfl
  go_wp2
  · go_ret
    exact ⟨by rw [Ear.ordI_lt (Ear.words_lt (by omega))]; rfl, by go_grown⟩
  · refine Ear.Pl.wp_region_qs 7 (by kernel_rfl) (by kernel_rfl) ?_; simp only [List.take_succ_cons, List.take_zero, List.drop_succ_cons, List.drop_zero]
    (iterate 7 (refine Ear.Pl.wpQ_run (by rfl) ?_; apply Exists.intro; refine ⟨fun K Q hK w' hw' => ?_, ?_⟩; (focus (subst hw'; simp only [Act.put, List.setIfInBounds_toArray, List.set_cons_succ, List.set_cons_zero] at hK; go_wp2; try rfl)); simp only [Act.put, List.setIfInBounds_toArray, List.set_cons_succ, List.set_cons_zero]))
    refine Ear.Pl.wpQ_nil ?_
    rintro w' rfl
    go_wp2
    · go_ret
      exact ⟨by rw [Ear.ordI_gt (Ear.words_lt (by omega))]; rfl, by go_grown⟩
    · skip
      rw [rounds_succ]
      go_wp2
      refine Ear.Pl.wp_region_qs 7 (by kernel_rfl) (by kernel_rfl) ?_; simp only [List.take_succ_cons, List.take_zero, List.drop_succ_cons, List.drop_zero]
      (iterate 7 (refine Ear.Pl.wpQ_run (by rfl) ?_; apply Exists.intro; refine ⟨fun K Q hK w' hw' => ?_, ?_⟩; (focus (subst hw'; simp only [Act.put, List.setIfInBounds_toArray, List.set_cons_succ, List.set_cons_zero] at hK; go_wp2; try rfl)); simp only [Act.put, List.setIfInBounds_toArray, List.set_cons_succ, List.set_cons_zero]))
      refine Ear.Pl.wpQ_nil ?_
      rintro w' rfl
      go_wp2
      · go_ret
        exact ⟨by rw [Ear.ordI_lt (Ear.words_lt (by omega))]; rfl, by go_grown⟩
      · refine Ear.Pl.wp_region_qs 7 (by kernel_rfl) (by kernel_rfl) ?_; simp only [List.take_succ_cons, List.take_zero, List.drop_succ_cons, List.drop_zero]
        (iterate 7 (refine Ear.Pl.wpQ_run (by rfl) ?_; apply Exists.intro; refine ⟨fun K Q hK w' hw' => ?_, ?_⟩; (focus (subst hw'; simp only [Act.put, List.setIfInBounds_toArray, List.set_cons_succ, List.set_cons_zero] at hK; go_wp2; try rfl)); simp only [Act.put, List.setIfInBounds_toArray, List.set_cons_succ, List.set_cons_zero]))
        refine Ear.Pl.wpQ_nil ?_
        rintro w' rfl
        go_wp2
        · go_ret
          exact ⟨by rw [Ear.ordI_gt (Ear.words_lt (by omega))]; rfl, by go_grown⟩
        · skip
          rw [rounds_succ]
          go_wp2
          refine Ear.Pl.wp_region_qs 7 (by kernel_rfl) (by kernel_rfl) ?_; simp only [List.take_succ_cons, List.take_zero, List.drop_succ_cons, List.drop_zero]
          (iterate 7 (refine Ear.Pl.wpQ_run (by rfl) ?_; apply Exists.intro; refine ⟨fun K Q hK w' hw' => ?_, ?_⟩; (focus (subst hw'; simp only [Act.put, List.setIfInBounds_toArray, List.set_cons_succ, List.set_cons_zero] at hK; go_wp2; try rfl)); simp only [Act.put, List.setIfInBounds_toArray, List.set_cons_succ, List.set_cons_zero]))
          refine Ear.Pl.wpQ_nil ?_
          rintro w' rfl
          go_wp2
          · go_ret
            exact ⟨by rw [Ear.ordI_lt (Ear.words_lt (by omega))]; rfl, by go_grown⟩
          · refine Ear.Pl.wp_region_qs 7 (by kernel_rfl) (by kernel_rfl) ?_; simp only [List.take_succ_cons, List.take_zero, List.drop_succ_cons, List.drop_zero]
            (iterate 7 (refine Ear.Pl.wpQ_run (by rfl) ?_; apply Exists.intro; refine ⟨fun K Q hK w' hw' => ?_, ?_⟩; (focus (subst hw'; simp only [Act.put, List.setIfInBounds_toArray, List.set_cons_succ, List.set_cons_zero] at hK; go_wp2; try rfl)); simp only [Act.put, List.setIfInBounds_toArray, List.set_cons_succ, List.set_cons_zero]))
            refine Ear.Pl.wpQ_nil ?_
            rintro w' rfl
            go_wp2
            · go_ret
              exact ⟨by rw [Ear.ordI_gt (Ear.words_lt (by omega))]; rfl, by go_grown⟩
            · skip
              rw [rounds_succ]
              go_wp2
              refine Ear.Pl.wp_region_qs 7 (by kernel_rfl) (by kernel_rfl) ?_; simp only [List.take_succ_cons, List.take_zero, List.drop_succ_cons, List.drop_zero]
              (iterate 7 (refine Ear.Pl.wpQ_run (by rfl) ?_; apply Exists.intro; refine ⟨fun K Q hK w' hw' => ?_, ?_⟩; (focus (subst hw'; simp only [Act.put, List.setIfInBounds_toArray, List.set_cons_succ, List.set_cons_zero] at hK; go_wp2; try rfl)); simp only [Act.put, List.setIfInBounds_toArray, List.set_cons_succ, List.set_cons_zero]))
              refine Ear.Pl.wpQ_nil ?_
              rintro w' rfl
              go_wp2
              · go_ret
                exact ⟨by rw [Ear.ordI_lt (Ear.words_lt (by omega))]; rfl, by go_grown⟩
              · refine Ear.Pl.wp_region_qs 7 (by kernel_rfl) (by kernel_rfl) ?_; simp only [List.take_succ_cons, List.take_zero, List.drop_succ_cons, List.drop_zero]
                (iterate 7 (refine Ear.Pl.wpQ_run (by rfl) ?_; apply Exists.intro; refine ⟨fun K Q hK w' hw' => ?_, ?_⟩; (focus (subst hw'; simp only [Act.put, List.setIfInBounds_toArray, List.set_cons_succ, List.set_cons_zero] at hK; go_wp2; try rfl)); simp only [Act.put, List.setIfInBounds_toArray, List.set_cons_succ, List.set_cons_zero]))
                refine Ear.Pl.wpQ_nil ?_
                rintro w' rfl
                go_wp2
                · go_ret
                  exact ⟨by rw [Ear.ordI_gt (Ear.words_lt (by omega))]; rfl, by go_grown⟩
                · skip
                  rw [rounds_succ]
                  go_wp2
                  go_ret
                  exact ⟨by rw [Ear.ordI_eq (Ear.words_eq (by omega))]; rfl, by go_grown⟩
end Go.Proofs.Ytlhmmjoemdckpaa
