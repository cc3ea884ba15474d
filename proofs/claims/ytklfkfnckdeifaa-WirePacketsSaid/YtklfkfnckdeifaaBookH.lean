/-
  What New of a book comes to.
-/
import Derived.Test.YtklfkfnckdeifaaBookF
namespace Go.Proofs.Ytklfkfnckdeifaa
set_option linter.unusedSimpArgs false
set_option linter.unusedVariables false
open Go.RowKit
theorem owns_of_blkB {W : World} {lo B e s n : Nat} {cs : List Value} (h : Ear.Blk W B e cs) (hlo : lo ≤ B) (hl : cs.length = n * s) (hn : n ≤ maxLen) : W.ownsRow lo e s (.slice (some ⟨B, 0, none⟩) n n) n cs :=
  ⟨hl, .inr ⟨B, n, cs.toArray, rfl, hlo, h, Nat.le_refl _, hn, by simp [hl], by simp [← hl]⟩⟩
def mixN (N k : Nat) : List Nt := (List.range N).map fun i : Nat => if i < k then (⟨(i : Int), 0, 1⟩ : Nt) else ⟨0, 0, 0⟩
theorem mixN_len (N k : Nat) : (mixN N k).length = N := by simp [mixN]
theorem mixN_all (N : Nat) : mixN N N = freshL N := by
  unfold mixN freshL
  apply List.map_congr_left
  intro i hi
  rw [if_pos (List.mem_range.1 hi)]
theorem mixN_set (N k : Nat) : (mixN N k).set k ⟨(k : Int), 0, 1⟩ = mixN N (k + 1) := by
  apply List.ext_getElem
  · simp [mixN_len]
  · intro i h1 h2
    by_cases hik : k = i
    · subst hik; simp [mixN]
    · rw [List.getElem_set_ne hik]
      simp only [mixN, List.getElem_map, List.getElem_range]
      have : (i < k) ↔ (i < k + 1) := by omega
      simp only [this]
theorem ntsV_zero (N : Nat) : ntsV (mixN N 0) = List.replicate (N * 3) (.int .i64 0) := by
  have h : ∀ m, ntsV (List.replicate m ⟨0, 0, 0⟩) = List.replicate (m * 3) (.int .i64 0) := by
    intro m
    induction m with
    | zero => rfl
    | succ m ih => rw [List.replicate_succ, ntsV_cons, ih, show (m + 1) * 3 = m * 3 + 1 + 1 + 1 by omega, List.replicate_succ, List.replicate_succ, List.replicate_succ]
  rw [← h N]
  congr 1
  apply List.ext_getElem
  · simp [mixN_len]
  · intro i h1 h2
    simp [mixN]
theorem made_zero (n : Nat) : madeCells #[Value.int .i64 0, .int .i64 0, .int .i64 0] n = (List.replicate n (Value.int .i64 0)).toArray := by
  apply Array.ext
  · simp [size_madeCells]
  · intro i h1 h2
    simp only [madeCells, Array.getElem_map, Array.getElem_range, List.getElem_toArray, List.getElem_replicate]
    have : i % 3 = 0 ∨ i % 3 = 1 ∨ i % 3 = 2 := by omega
    show (#[Value.int .i64 0, .int .i64 0, .int .i64 0] : Array Value)[i % 3]! = _
    rcases this with h | h | h <;> rw [h] <;> rfl
theorem info_nt : (Try.prog.info? 84).map (fun i => (i.zero, i.size, i.bytes)) = some (some (.agg #[.int .i64 0, .int .i64 0, .int .i64 0]), 3, 24) := by kernel_rfl
theorem make_nt (N : Nat) (hN : N ≤ 100) (u : World) : (Instr.makeSlice 31 (.int .i64 (N : Int)) (.int .i64 (N : Int))).run Try.prog u =
    .ok (.slice (some ⟨u.heap.size, 0, none⟩) N N) (u.alloc (.cells (ntsV (mixN N 0)).toArray 84)) := by
  obtain ⟨i0, hi, hz0, hz1, hz2⟩ := info_parts info_nt
  have h := run_make (P := Try.prog) (w := u) 31 84 i0 _ Try.underlying31 hi hz0 .i64 .i64 (N : Int) (N : Int) (by omega) (Int.le_refl _) (by rw [hz2]; omega) (by omega)
  rw [hz1, Int.toNat_natCast] at h
  rw [h, ntsV_zero, ← made_zero]
  rfl
theorem Valid_own {n self tag : Int} {b : Bool} (h : validN n ⟨self, tag, 1⟩ = b) (w : World) : Calls Try.prog 64 #[.int .i64 n, .agg #[.int .i64 self, .int .i64 tag, .int .i64 1]] w fun e w' => e = .returned (.bool b) ∧ Below w.heap.size w w' := Valid_eq h w
end Go.Proofs.Ytklfkfnckdeifaa
