/-
  What Make and Clean of the document's answer come to.
-/
import Derived.Test.YtfkgllbooopfdaaRef
import Derived.Test.YtfkgllbooopfdaaMathE
import Derived.WalkKit
import Derived.LoopTactic
import Derived.WalkSpells
import Derived.WalkLawsBesides
import Derived.Handy
import Derived.Lib.Hide
namespace Go.Proofs.Ytfkgllbooopfdaa
set_option linter.unusedSimpArgs false
set_option linter.unusedVariables false
open Go.RowKit
attribute [local go_sem] rowL_len
attribute [local irreducible] Ear.wd Ear.one Ear.clean
set_option maxRecDepth 100000 in
set_option maxHeartbeats 2000000 in
theorem Make_calls (f : Nat → Bool) (w : World) : Calls Try.prog 57 #[rowV f] w fun e w' => e = .returned (.agg #[.int .u32 (Ear.wd (Ear.ofF f 100) 0), .int .u32 (Ear.wd (Ear.ofF f 100) 1), .int .u32 (Ear.wd (Ear.ofF f 100) 2), .int .u32 (Ear.wd (Ear.ofF f 100) 3)]) ∧ Below w.heap.size w w' := by
  go_enter Try.func57, Try.ntmps57
  go_wp2
  go_loopw [4] (fun i wr => ∃ k : Nat, k ≤ 100 ∧ i = .int .i64 k ∧ Below w.heap.size w wr ∧ Ear.Blk wr w.heap.size 84 (rowL f) ∧
    Ear.Blk wr (w.heap.size + 1) 35 [.int .u32 0, .int .u32 0, .int .u32 0, .int .u32 0] ∧ Ear.Blk wr (w.heap.size + 2) 35 [.int .u32 (Ear.wd (Ear.ofF f k) 0), .int .u32 (Ear.wd (Ear.ofF f k) 1), .int .u32 (Ear.wd (Ear.ofF f k) 2), .int .u32 (Ear.wd (Ear.ofF f k) 3)]) (fun i _ => 100 - (intOf i).toNat)
  case atStart =>
    refine ⟨0, by omega, rfl, ?_, ?_, ?_, ?_⟩
    · go_grown
    · (repeat' (first | (show Ear.Blk _ _ _ _; with_reducible assumption) | ((with_reducible apply Ear.Blk.new'); (simp only [World.size_alloc, World.size_setCell, World.size_drew, setRow_size]; done)) | (with_reducible apply Ear.Blk.alloc) | (with_reducible apply Ear.Blk.drew) | (with_reducible apply Ear.Blk.set') | (with_reducible apply Ear.Blk.setRow') | (with_reducible apply Ear.Blk.otherRow) | (with_reducible apply Ear.Blk.other) | (show List.set _ _ _ = _; first | exact HSET.out | exact Ear.set_xor _ _ (by omega) | exact Ear.set_or _ _ (by omega) | rfl) | (show _ ≠ _; (try simp only [World.size_alloc, World.size_setCell, World.size_drew, setRow_size]); omega) | (show _ < _; (try simp only [World.size_alloc, World.size_setCell, World.size_drew, setRow_size]); omega)))
    · (repeat' (first | (show Ear.Blk _ _ _ _; with_reducible assumption) | ((with_reducible apply Ear.Blk.new'); (simp only [World.size_alloc, World.size_setCell, World.size_drew, setRow_size]; done)) | (with_reducible apply Ear.Blk.alloc) | (with_reducible apply Ear.Blk.drew) | (with_reducible apply Ear.Blk.set') | (with_reducible apply Ear.Blk.setRow') | (with_reducible apply Ear.Blk.otherRow) | (with_reducible apply Ear.Blk.other) | (show List.set _ _ _ = _; first | exact HSET.out | exact Ear.set_xor _ _ (by omega) | exact Ear.set_or _ _ (by omega) | rfl) | (show _ ≠ _; (try simp only [World.size_alloc, World.size_setCell, World.size_drew, setRow_size]); omega) | (show _ < _; (try simp only [World.size_alloc, World.size_setCell, World.size_drew, setRow_size]); omega)))
    · simp only [Ear.ofF, Ear.wd_zero]
      (repeat' (first | (show Ear.Blk _ _ _ _; with_reducible assumption) | ((with_reducible apply Ear.Blk.new'); (simp only [World.size_alloc, World.size_setCell, World.size_drew, setRow_size]; done)) | (with_reducible apply Ear.Blk.alloc) | (with_reducible apply Ear.Blk.drew) | (with_reducible apply Ear.Blk.set') | (with_reducible apply Ear.Blk.setRow') | (with_reducible apply Ear.Blk.otherRow) | (with_reducible apply Ear.Blk.other) | (show List.set _ _ _ = _; first | exact HSET.out | exact Ear.set_xor _ _ (by omega) | exact Ear.set_or _ _ (by omega) | rfl) | (show _ ≠ _; (try simp only [World.size_alloc, World.size_setCell, World.size_drew, setRow_size]); omega) | (show _ < _; (try simp only [World.size_alloc, World.size_setCell, World.size_drew, setRow_size]); omega)))
  case round =>
    obtain ⟨k, hk, rfl, hB, hx_1, hy_1, hz_1⟩ := hrel
    have hs := hB.size
    have hx_1_l := hx_1.lt
    have hy_1_l := hy_1.lt
    have hz_1_l := hz_1.lt
    by_cases hlt : k < 100
    · have hc := sel_at hz_1 k (by omega)
      have hf := hz_1.frozen (k / 32)
      have hrc := hx_1.cell k
      rw [rowL_get _ _ hlt] at hrc
      have HE : Ear.ofF f (k + 1) = if f k then Ear.ofF f k ||| Ear.one k else Ear.ofF f k := rfl
      obtain ⟨c, hcc⟩ : ∃ c, Ear.ofF f k = c := ⟨_, rfl⟩
      rw [hcc] at *
      have HSET := Lib.hid (Ear.set_or c k (by omega))
      by_cases hfk : f k = true
      · rw [hfk] at hrc
        rw [if_pos hfk] at HE
        have HH := Lib.hid HE
        clear HE hfk hcc
        go_wp2
        refine Ear.Pl.wp_region_qs 11 (by kernel_rfl) (by kernel_rfl) ?_; simp only [List.take_succ_cons, List.take_zero, List.drop_succ_cons, List.drop_zero]
        (iterate 11 (refine Ear.Pl.wpQ_run (by rfl) ?_; apply Exists.intro; refine ⟨fun K Q hK w' hw' => ?_, ?_⟩; (focus (subst hw'; simp only [Act.put, List.setIfInBounds_toArray, List.set_cons_succ, List.set_cons_zero] at hK; go_wp2; try rfl)); simp only [Act.put, List.setIfInBounds_toArray, List.set_cons_succ, List.set_cons_zero]))
        refine Ear.Pl.wpQ_nil ?_
        rintro w' rfl
        go_wp2
        go_roundw
        case rel =>
          refine ⟨k + 1, hlt, by go_num, by go_grown, by (repeat' (first | (show Ear.Blk _ _ _ _; with_reducible assumption) | ((with_reducible apply Ear.Blk.new'); (simp only [World.size_alloc, World.size_setCell, World.size_drew, setRow_size]; done)) | (with_reducible apply Ear.Blk.alloc) | (with_reducible apply Ear.Blk.drew) | (with_reducible apply Ear.Blk.set') | (with_reducible apply Ear.Blk.setRow') | (with_reducible apply Ear.Blk.otherRow) | (with_reducible apply Ear.Blk.other) | (show List.set _ _ _ = _; first | exact HSET.out | exact Ear.set_xor _ _ (by omega) | exact Ear.set_or _ _ (by omega) | rfl) | (show _ ≠ _; (try simp only [World.size_alloc, World.size_setCell, World.size_drew, setRow_size]); omega) | (show _ < _; (try simp only [World.size_alloc, World.size_setCell, World.size_drew, setRow_size]); omega))), by (repeat' (first | (show Ear.Blk _ _ _ _; with_reducible assumption) | ((with_reducible apply Ear.Blk.new'); (simp only [World.size_alloc, World.size_setCell, World.size_drew, setRow_size]; done)) | (with_reducible apply Ear.Blk.alloc) | (with_reducible apply Ear.Blk.drew) | (with_reducible apply Ear.Blk.set') | (with_reducible apply Ear.Blk.setRow') | (with_reducible apply Ear.Blk.otherRow) | (with_reducible apply Ear.Blk.other) | (show List.set _ _ _ = _; first | exact HSET.out | exact Ear.set_xor _ _ (by omega) | exact Ear.set_or _ _ (by omega) | rfl) | (show _ ≠ _; (try simp only [World.size_alloc, World.size_setCell, World.size_drew, setRow_size]); omega) | (show _ < _; (try simp only [World.size_alloc, World.size_setCell, World.size_drew, setRow_size]); omega))), ?_⟩
          rw [HH.out]
          (repeat' (first | (show Ear.Blk _ _ _ _; with_reducible assumption) | ((with_reducible apply Ear.Blk.new'); (simp only [World.size_alloc, World.size_setCell, World.size_drew, setRow_size]; done)) | (with_reducible apply Ear.Blk.alloc) | (with_reducible apply Ear.Blk.drew) | (with_reducible apply Ear.Blk.set') | (with_reducible apply Ear.Blk.setRow') | (with_reducible apply Ear.Blk.otherRow) | (with_reducible apply Ear.Blk.other) | (show List.set _ _ _ = _; first | exact HSET.out | exact Ear.set_xor _ _ (by omega) | exact Ear.set_or _ _ (by omega) | rfl) | (show _ ≠ _; (try simp only [World.size_alloc, World.size_setCell, World.size_drew, setRow_size]); omega) | (show _ < _; (try simp only [World.size_alloc, World.size_setCell, World.size_drew, setRow_size]); omega)))
        case measure => simp [intOf]; omega
      · have hfk' : f k = false := by simpa using hfk
        rw [hfk'] at hrc
        rw [if_neg hfk] at HE
        have HH := Lib.hid HE
        clear HE hfk hfk' hcc
        go_wp2
        go_roundw
        case rel =>
          refine ⟨k + 1, hlt, by go_num, by go_grown, hx_1, hy_1, ?_⟩
          rw [HH.out]
          exact hz_1
        case measure => simp [intOf]; omega
    · have hk' : k = 100 := by omega
      subst hk'
      have hy_1_c0 := hy_1.cell 0; have hy_1_f0 := hy_1.frozen 0; have hy_1_c1 := hy_1.cell 1; have hy_1_f1 := hy_1.frozen 1; have hy_1_c2 := hy_1.cell 2; have hy_1_f2 := hy_1.frozen 2; have hy_1_c3 := hy_1.cell 3; have hy_1_f3 := hy_1.frozen 3
      have hz_1_c0 := hz_1.cell 0; have hz_1_f0 := hz_1.frozen 0; have hz_1_c1 := hz_1.cell 1; have hz_1_f1 := hz_1.frozen 1; have hz_1_c2 := hz_1.cell 2; have hz_1_f2 := hz_1.frozen 2; have hz_1_c3 := hz_1.cell 3; have hz_1_f3 := hz_1.frozen 3
      go_wp2
      refine bp_world (fun W => Below w.heap.size w W ∧ Ear.Blk W (w.heap.size + 1) 35 ([.int .u32 (Ear.wd (Ear.ofF f 100) 0), .int .u32 (Ear.wd (Ear.ofF f 100) 1), .int .u32 (Ear.wd (Ear.ofF f 100) 2), .int .u32 (Ear.wd (Ear.ofF f 100) 3)])) ⟨by go_grown, by (repeat' (first | (show Ear.Blk _ _ _ _; with_reducible assumption) | ((with_reducible apply Ear.Blk.new'); (simp only [World.size_alloc, World.size_setCell, World.size_drew, setRow_size]; done)) | (with_reducible apply Ear.Blk.alloc) | (with_reducible apply Ear.Blk.drew) | (with_reducible apply Ear.Blk.set') | (with_reducible apply Ear.Blk.setRow') | (with_reducible apply Ear.Blk.otherRow) | (with_reducible apply Ear.Blk.other) | (show List.set _ _ _ = _; first | exact HSET.out | exact Ear.set_xor _ _ (by omega) | exact Ear.set_or _ _ (by omega) | rfl) | (show _ ≠ _; (try simp only [World.size_alloc, World.size_setCell, World.size_drew, setRow_size]); omega) | (show _ < _; (try simp only [World.size_alloc, World.size_setCell, World.size_drew, setRow_size]); omega)))⟩ ?_; rintro w3 ⟨hB3, hx_3⟩; have hs3 := hB3.size; have hx_3_l := hx_3.lt; have hx_3_c0 := hx_3.cell 0; have hx_3_f0 := hx_3.frozen 0; have hx_3_c1 := hx_3.cell 1; have hx_3_f1 := hx_3.frozen 1; have hx_3_c2 := hx_3.cell 2; have hx_3_f2 := hx_3.frozen 2; have hx_3_c3 := hx_3.cell 3; have hx_3_f3 := hx_3.frozen 3
      refine bodyPost_ret (v := .agg #[.int .u32 (Ear.wd (Ear.ofF f 100) 0), .int .u32 (Ear.wd (Ear.ofF f 100) 1), .int .u32 (Ear.wd (Ear.ofF f 100) 2), .int .u32 (Ear.wd (Ear.ofF f 100) 3)]) (by simp [results, Try.results57, go_sem, hx_3_c0, hx_3_c1, hx_3_c2, hx_3_c3]) rfl ⟨rfl, hB3⟩

end Go.Proofs.Ytfkgllbooopfdaa
