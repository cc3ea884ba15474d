/-
  Rows of bools: how they are read and written; what Row and Make of the document's answer come to.
-/
import Derived.Test.YtfkgllbooopfdaaSetsH
import Derived.Test.YtfkgllbooopfdaaLibA
import Derived.Laws.Rows
import Derived.Laws.Tables
import Derived.Laws.CopyOwn
import Derived.WalkKit
import Derived.LoopTactic
import Derived.WalkSpells
import Derived.WalkLawsBesides
import Derived.Handy
import Derived.Lib.Hide
namespace Go.Proofs.Ytfkgllbooopfdaa
set_option linter.unusedSimpArgs false
set_option linter.unusedVariables false
open Go.RowKit

/-- A row of a hundred bools. -/
def rowL (f : Nat → Bool) : List Value := (List.range 100).map fun i => Value.bool (f i)
theorem rowL_len (f : Nat → Bool) : (rowL f).length = 100 := by simp [rowL]
theorem rowL_congr {f g : Nat → Bool} (h : ∀ i, i < 100 → f i = g i) : rowL f = rowL g := by
  unfold rowL
  apply List.map_congr_left
  intro i hi
  rw [h i (List.mem_range.1 hi)]
theorem rowL_get (f : Nat → Bool) (i : Nat) (h : i < 100) : (rowL f)[i]? = some (.bool (f i)) := by
  unfold rowL
  rw [List.getElem?_map, List.getElem?_range h]; rfl
theorem rowL_set (f g : Nat → Bool) (k : Nat) (b : Bool) (h : ∀ i, i < 100 → (if i = k then b else f i) = g i) : (rowL f).set k (.bool b) = rowL g := by
  rw [← rowL_congr h]
  apply List.ext_getElem?
  intro i
  rw [List.getElem?_set]
  by_cases hk : k = i
  · subst hk
    simp only [rowL_len, if_true]
    by_cases hi : k < 100
    · rw [if_pos hi, rowL_get _ _ hi]; simp
    · rw [if_neg hi, List.getElem?_eq_none (by rw [rowL_len]; omega)]
  · rw [if_neg hk]
    by_cases hi : i < 100
    · rw [rowL_get _ _ hi, rowL_get _ _ hi]; simp [Ne.symm hk]
    · rw [List.getElem?_eq_none (by rw [rowL_len]; omega), List.getElem?_eq_none (by rw [rowL_len]; omega)]
abbrev rowV (f : Nat → Bool) : Value := .agg (rowL f).toArray

theorem size73 (f : Nat → Bool) : (Try.prog.info? 84).map (·.size) = some (rowL f).toArray.size := by
  rw [List.size_toArray, rowL_len]; kernel_rfl
theorem load73 {w : World} {B T : Nat} {f : Nat → Bool} (h : Ear.Blk w B T (rowL f)) : (loadVar 84 ⟨B, 0, none⟩).run Try.prog w = .ok (rowV f) w :=
  run_loadVar_row w B T 84 (rowL f).toArray (0, 0) _ h Try.underlying84 rfl (size73 f)
theorem one73 (f : Nat → Bool) : (rowL f).toArray.all (·.oneCell') = true := by
  simp [rowL, Value.oneCell']
theorem store73 {w : World} {B T : Nat} {f g : Nat → Bool} (h : Ear.Blk w B T (rowL f)) : (storeVar 84 ⟨B, 0, none⟩ (rowV g)).run Try.prog w = .ok () (w.setRow B (rowL g).toArray) :=
  run_storeVar_row w B T 84 (rowL f).toArray (rowL g).toArray h (size73 g) (by simp [rowL_len]) (one73 g)
theorem storeCells73 {w : World} {B T : Nat} {f g : Nat → Bool} (h : Ear.Blk w B T (rowL f)) : Sem.run Try.prog (storeCells ⟨B, 0, none⟩ (rowL g)) w = .ok () (w.setRow B (rowL g).toArray) := by
  have := run_storeCells_from (P := Try.prog) B T (rowL g) 0 (rowL f).toArray w h (by simp [rowL_len]) (by intro v hv; simp [rowL] at hv; obtain ⟨i, _, rfl⟩ := hv; rfl)
  simpa [rowL_len] using this
namespace Ear
theorem Blk.setRow' {W : World} {B g T : Nat} {cs cs' : List Value} (h : Blk W B T cs) (e : g = B) : Blk (W.setRow g cs'.toArray) B T cs' := by subst e; exact setRow_heap W _ _ _ _ _ h
theorem Blk.otherRow {W : World} {B g T : Nat} {cs : List Value} {c : Array Value} (h : Blk W B T cs) (e : B ≠ g) : Blk (W.setRow g c) B T cs := (setRow_other W g B c e).trans h
end Ear
theorem sel_at {v : BitVec 128} {w : World} {B T : Nat} (h : Ear.Blk w B T [.int .u32 (Ear.wd (v) 0), .int .u32 (Ear.wd (v) 1), .int .u32 (Ear.wd (v) 2), .int .u32 (Ear.wd (v) 3)]) (k : Nat) (hk : k < 128) : w.cell? ⟨B, k / 32, none⟩ = some (.int .u32 (Ear.wd v (k / 32))) := by
  rw [h.cell, Ear.sel v _ (by omega)]
theorem has_bitN (v : BitVec 128) (k : Nat) (h : k < 128) : (Go.bits .and .u32 (Ear.wd v (k / 32) / 2 ^ (k % 32)) 1 == 1) = v.getLsbD k := by
  have := Ear.has_bit v (k : Int) (by omega) (by omega)
  have e1 : ((k : Int) / 32).toNat = k / 32 := by omega
  have e2 : ((k : Int) % 32).toNat = k % 32 := by omega
  rw [e1, e2] at this
  exact this

attribute [local go_sem] rowL_len
end Go.Proofs.Ytfkgllbooopfdaa
