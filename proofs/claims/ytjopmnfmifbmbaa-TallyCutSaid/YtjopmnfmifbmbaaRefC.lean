/-
  What Clean, Has, With, Without of the document's answer come to.
-/
import Derived.Test.YtjopmnfmifbmbaaRefB
import Derived.Deep.WholeRow
import Derived.WalkKit
import Derived.LoopTactic
import Derived.WalkSpells
import Derived.WalkLawsBesides
import Derived.Handy
import Derived.Lib.Hide
import Derived.Deep.Cut
namespace Go.Proofs.Ytjopmnfmifbmbaa
set_option linter.unusedSimpArgs false
set_option linter.unusedVariables false
open Go.RowKit
attribute [local go_sem] rowL_len
attribute [local irreducible] Ear.wd Ear.one Ear.clean
namespace Ear
theorem clean_or_one (v : BitVec 128) (k : Nat) (h : k < 100) : clean (v ||| one k) = clean v ||| one k := by
  apply BitVec.eq_of_getLsbD_eq
  intro i hi
  rw [clean_bit, BitVec.getLsbD_or, BitVec.getLsbD_or, clean_bit, one_bit]
  by_cases hik : i = k
  · subst hik; simp [h, hi]
  · simp [hik]
theorem clean_andNot_one (v : BitVec 128) (k : Nat) : clean (v &&& ~~~(one k)) = clean v &&& ~~~(one k) := by
  apply BitVec.eq_of_getLsbD_eq
  intro i hi
  rw [clean_bit, BitVec.getLsbD_and, BitVec.getLsbD_and, clean_bit]
  cases v.getLsbD i <;> cases (~~~(one k)).getLsbD i <;> simp
end Ear
theorem Make_eq {f : Nat → Bool} {v : BitVec 128} (h : ∀ i, i < 100 → f i = v.getLsbD i) (w : World) : Calls Try.prog 128 #[rowV f] w fun e w' => e = .returned (.agg #[.int .u32 (Ear.wd (Ear.clean v) 0), .int .u32 (Ear.wd (Ear.clean v) 1), .int .u32 (Ear.wd (Ear.clean v) 2), .int .u32 (Ear.wd (Ear.clean v) 3)]) ∧ Below w.heap.size w w' := by
  have := Make_calls f w
  rw [Ear.ofF_eq h] at this
  exact this

theorem idx73 (f : Nat → Bool) (k : Nat) (h : k < 100) (w : World) : Sem.run Try.prog (Instr.index 161 (rowV f) (.int .i64 (k : Int))) w = .ok (.bool (f k)) w := by
  have ha : (isAgg 4).run Try.prog w = .ok false w := by
    unfold isAgg
    rw [Sem.run_bind, run_underlying Try.underlying4 w]
    simp
  have hg : (rowL f).toArray[k]? = some (.bool (f k)) := by rw [List.getElem?_toArray]; exact rowL_get f k h
  have hp : (part 4 (rowL f).toArray k).run Try.prog w = .ok (.bool (f k)) w := by
    simp [part, Sem.run_bind, ha, hg]
  have hsz : (sizeOf 4).run Try.prog w = .ok 1 w := by kernel_rfl
  have hlt : (0 : Int) ≤ (k : Int) ∧ (k : Int) < ((100 : Nat) : Int) := by omega
  have hlt' : (k : Int) < 100 := by omega
  simp [Instr.index, Sem.run_bind, asIntOf, run_underlying Try.underlying161, hsz, hlt', hp]
  intro hc; omega

theorem storeNew (W : World) (g : Nat → Bool) : Sem.run Try.prog (storeCells ⟨W.heap.size, 0, none⟩ (rowL g)) (W.alloc (.cells Try.zeroCells161 161)) = .ok () (W.alloc (.cells (rowL g).toArray 161)) := by
  rw [zero73, storeCells73 (Ear.Blk.new W _ _), World.setRow_alloc_new]
attribute [local go_sem] storeNew
set_option maxRecDepth 100000 in
set_option maxHeartbeats 2000000 in
theorem RWith_yes (v : BitVec 128) (k : Nat) (h : k < 100) (w : World) : Calls Try.prog 126 #[.agg #[.int .u32 (Ear.wd (v) 0), .int .u32 (Ear.wd (v) 1), .int .u32 (Ear.wd (v) 2), .int .u32 (Ear.wd (v) 3)], .int .i64 (k : Int)] w fun e w' => e = .returned (.tuple #[.agg #[.int .u32 (Ear.wd (Ear.clean v ||| Ear.one k) 0), .int .u32 (Ear.wd (Ear.clean v ||| Ear.one k) 1), .int .u32 (Ear.wd (Ear.clean v ||| Ear.one k) 2), .int .u32 (Ear.wd (Ear.clean v ||| Ear.one k) 3)], .int .i64 0]) ∧ Below w.heap.size w w' := by
  go_enter Try.func126, Try.ntmps126
  go_upto_region 5 with ((go_at_call 127; refine (Row_calls v _).mono ?_; rintro e w1 ⟨rfl, hb1⟩; have hB1 : Below w.heap.size w w1 := Below.trans (by go_grown) (hb1.mono (by (try simp only [World.size_alloc, World.size_setCell, World.size_drew, setRow_size]); omega)); have hs1 := hB1.size; have hy_1 : Ear.Blk w1 (w.heap.size + 1) 24 ([.int .u32 0, .int .u32 0, .int .u32 0, .int .u32 0]) := (by (repeat' (first | (show Ear.Blk _ _ _ _; with_reducible assumption) | ((with_reducible apply Ear.Blk.new'); (simp only [World.size_alloc, World.size_setCell, World.size_drew, setRow_size]; done)) | (with_reducible apply Ear.Blk.alloc) | (with_reducible apply Ear.Blk.drew) | (with_reducible apply Ear.Blk.set') | (with_reducible apply Ear.Blk.setRow') | (with_reducible apply Ear.Blk.otherRow) | (with_reducible apply Ear.Blk.other) | (with_reducible apply Ear.Blk.below (hb := hb1)) | (show List.set _ _ _ = _; first | exact HSET.out | exact Ear.set_xor _ _ (by omega) | exact Ear.set_or _ _ (by omega) | rfl) | (show _ ≠ _; (try simp only [World.size_alloc, World.size_setCell, World.size_drew, setRow_size]); omega) | (show _ < _; (try simp only [World.size_alloc, World.size_setCell, World.size_drew, setRow_size]); omega)))); clear hb1; have hy_1_l := hy_1.lt; have hy_1_c0 := hy_1.cell 0; have hy_1_f0 := hy_1.frozen 0; have hy_1_c1 := hy_1.cell 1; have hy_1_f1 := hy_1.frozen 1; have hy_1_c2 := hy_1.cell 2; have hy_1_f2 := hy_1.frozen 2; have hy_1_c3 := hy_1.cell 3; have hy_1_f3 := hy_1.frozen 3))
  rw [rowL_set _ (fun j => if j = k then true else v.getLsbD j) k true (fun _ _ => rfl)]
  apply wp_region_lit
  refine wpList_load_row rfl 161 _ rfl _ rfl _ _ (0, 0) _ (Ear.Blk.new _ _ _) Try.underlying161 rfl (size73 _) ?_
  go_wp2_with (go_at_call 128; refine (Make_eq (v := v ||| Ear.one k) (fun i hi => by rw [BitVec.getLsbD_or, Ear.one_bit]; by_cases hik : i = k <;> simp [hik]; omega) _).mono ?_; rintro e w2 ⟨rfl, hb2⟩; have hB2 : Below w.heap.size w w2 := Below.trans (by go_grown) (hb2.mono (by (try simp only [World.size_alloc, World.size_setCell, World.size_drew, setRow_size]); omega)); have hs2 := hB2.size; have hy_2 : Ear.Blk w2 (w.heap.size + 1) 24 ([.int .u32 0, .int .u32 0, .int .u32 0, .int .u32 0]) := (by (repeat' (first | (show Ear.Blk _ _ _ _; with_reducible assumption) | ((with_reducible apply Ear.Blk.new'); (simp only [World.size_alloc, World.size_setCell, World.size_drew, setRow_size]; done)) | (with_reducible apply Ear.Blk.alloc) | (with_reducible apply Ear.Blk.drew) | (with_reducible apply Ear.Blk.set') | (with_reducible apply Ear.Blk.setRow') | (with_reducible apply Ear.Blk.otherRow) | (with_reducible apply Ear.Blk.other) | (with_reducible apply Ear.Blk.below (hb := hb2)) | (show List.set _ _ _ = _; first | exact HSET.out | exact Ear.set_xor _ _ (by omega) | exact Ear.set_or _ _ (by omega) | rfl) | (show _ ≠ _; (try simp only [World.size_alloc, World.size_setCell, World.size_drew, setRow_size]); omega) | (show _ < _; (try simp only [World.size_alloc, World.size_setCell, World.size_drew, setRow_size]); omega)))); clear hb2; have hy_2_l := hy_2.lt; have hy_2_c0 := hy_2.cell 0; have hy_2_f0 := hy_2.frozen 0; have hy_2_c1 := hy_2.cell 1; have hy_2_f1 := hy_2.frozen 1; have hy_2_c2 := hy_2.cell 2; have hy_2_f2 := hy_2.frozen 2; have hy_2_c3 := hy_2.cell 3; have hy_2_f3 := hy_2.frozen 3)
  have hcl : Ear.clean (v ||| Ear.one k) = Ear.clean v ||| Ear.one k := Ear.clean_or_one v k h
  refine bp_world (fun W => Below w.heap.size w W ∧ Ear.Blk W (w.heap.size + 1) 24 ([.int .u32 (Ear.wd (Ear.clean (v ||| Ear.one k)) 0), .int .u32 (Ear.wd (Ear.clean (v ||| Ear.one k)) 1), .int .u32 (Ear.wd (Ear.clean (v ||| Ear.one k)) 2), .int .u32 (Ear.wd (Ear.clean (v ||| Ear.one k)) 3)])) ⟨by go_grown, by (repeat' (first | (show Ear.Blk _ _ _ _; with_reducible assumption) | ((with_reducible apply Ear.Blk.new'); (simp only [World.size_alloc, World.size_setCell, World.size_drew, setRow_size]; done)) | (with_reducible apply Ear.Blk.alloc) | (with_reducible apply Ear.Blk.drew) | (with_reducible apply Ear.Blk.set') | (with_reducible apply Ear.Blk.setRow') | (with_reducible apply Ear.Blk.otherRow) | (with_reducible apply Ear.Blk.other) | (show List.set _ _ _ = _; first | exact HSET.out | exact Ear.set_xor _ _ (by omega) | exact Ear.set_or _ _ (by omega) | rfl) | (show _ ≠ _; (try simp only [World.size_alloc, World.size_setCell, World.size_drew, setRow_size]); omega) | (show _ < _; (try simp only [World.size_alloc, World.size_setCell, World.size_drew, setRow_size]); omega)))⟩ ?_; rintro w3 ⟨hB3, hy_3⟩; have hs3 := hB3.size; have hy_3_l := hy_3.lt; have hy_3_c0 := hy_3.cell 0; have hy_3_f0 := hy_3.frozen 0; have hy_3_c1 := hy_3.cell 1; have hy_3_f1 := hy_3.frozen 1; have hy_3_c2 := hy_3.cell 2; have hy_3_f2 := hy_3.frozen 2; have hy_3_c3 := hy_3.cell 3; have hy_3_f3 := hy_3.frozen 3
  rw [hcl] at *
  refine bodyPost_ret (v := .tuple #[.agg #[.int .u32 (Ear.wd (Ear.clean v ||| Ear.one k) 0), .int .u32 (Ear.wd (Ear.clean v ||| Ear.one k) 1), .int .u32 (Ear.wd (Ear.clean v ||| Ear.one k) 2), .int .u32 (Ear.wd (Ear.clean v ||| Ear.one k) 3)], .int .i64 0]) (by simp [results, Try.results126, go_sem, hy_3_c0, hy_3_c1, hy_3_c2, hy_3_c3]) rfl ⟨rfl, hB3⟩

set_option maxRecDepth 100000 in
set_option maxHeartbeats 2000000 in
theorem RWith_no (v : BitVec 128) (i : Int) (h : i < 0 ∨ 100 ≤ i) (w : World) : Calls Try.prog 126 #[.agg #[.int .u32 (Ear.wd (v) 0), .int .u32 (Ear.wd (v) 1), .int .u32 (Ear.wd (v) 2), .int .u32 (Ear.wd (v) 3)], .int .i64 i] w fun e w' => e = .returned (.tuple #[.agg #[.int .u32 (Ear.wd (0#128) 0), .int .u32 (Ear.wd (0#128) 1), .int .u32 (Ear.wd (0#128) 2), .int .u32 (Ear.wd (0#128) 3)], .int .i64 30]) ∧ Below w.heap.size w w' := by
  by_cases hi : i < 0
  all_goals
    go_enter Try.func126, Try.ntmps126
    go_wp2
    refine bodyPost_ret (v := .tuple #[.agg #[.int .u32 (Ear.wd (0#128) 0), .int .u32 (Ear.wd (0#128) 1), .int .u32 (Ear.wd (0#128) 2), .int .u32 (Ear.wd (0#128) 3)], .int .i64 30]) (by simp [results, Try.results126, go_sem, Ear.wd_zero]) rfl ⟨rfl, ?_⟩
    go_grown

end Go.Proofs.Ytjopmnfmifbmbaa
