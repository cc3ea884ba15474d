/-
  Rows of bools: how they are read and written; what Row and Make of the document's answer come to.
-/
import Derived.Test.YtjopmnfmifbmbaaSetsH
import Derived.Test.YtjopmnfmifbmbaaLibA
import Derived.Laws.Rows
import Derived.Laws.Tables
import Derived.Laws.CopyOwn
import Derived.WalkKit
import Derived.LoopTactic
import Derived.WalkSpells
import Derived.WalkLawsBesides
import Derived.Handy
import Derived.Lib.Hide
namespace Go.Proofs.Ytjopmnfmifbmbaa
set_option linter.unusedSimpArgs false
set_option linter.unusedVariables false
open Go.RowKit

/-- A row of a hundred bools. -/
def rowL (f : Nat → Bool) : List Value := (List.range 100).map fun i => Value.bool (f i)
theorem rowL_len (f : Nat → Bool) : (rowL f).length = 100 := by simp [rowL]
theorem rowL_congr {f g : Nat → Bool} (h : ∀ i, i < 100 → f i = g i) : rowL f = rowL g := by
  unfold rowL
  apply List.map_congr_left
  intro i hi
  rw [h i (List.mem_range.1 hi)]
theorem rowL_get (f : Nat → Bool) (i : Nat) (h : i < 100) : (rowL f)[i]? = some (.bool (f i)) := by
  unfold rowL
  rw [List.getElem?_map, List.getElem?_range h]; rfl
theorem rowL_set (f g : Nat → Bool) (k : Nat) (b : Bool) (h : ∀ i, i < 100 → (if i = k then b else f i) = g i) : (rowL f).set k (.bool b) = rowL g := by
  rw [← rowL_congr h]
  apply List.ext_getElem?
  intro i
  rw [List.getElem?_set]
  by_cases hk : k = i
  · subst hk
    simp only [rowL_len, if_true]
    by_cases hi : k < 100
    · rw [if_pos hi, rowL_get _ _ hi]; simp
    · rw [if_neg hi, List.getElem?_eq_none (by rw [rowL_len]; omega)]
  · rw [if_neg hk]
    by_cases hi : i < 100
    · rw [rowL_get _ _ hi, rowL_get _ _ hi]; simp [Ne.symm hk]
    · rw [List.getElem?_eq_none (by rw [rowL_len]; omega), List.getElem?_eq_none (by rw [rowL_len]; omega)]
abbrev rowV (f : Nat → Bool) : Value := .agg (rowL f).toArray

theorem zero73 : Try.zeroCells161 = (rowL fun _ => false).toArray := by kernel_rfl
theorem size73 (f : Nat → Bool) : (Try.prog.info? 161).map (·.size) = some (rowL f).toArray.size := by
  rw [List.size_toArray, rowL_len]; kernel_rfl
theorem load73 {w : World} {B T : Nat} {f : Nat → Bool} (h : Ear.Blk w B T (rowL f)) : (loadVar 161 ⟨B, 0, none⟩).run Try.prog w = .ok (rowV f) w :=
  run_loadVar_row w B T 161 (rowL f).toArray (0, 0) _ h Try.underlying161 rfl (size73 f)
theorem one73 (f : Nat → Bool) : (rowL f).toArray.all (·.oneCell') = true := by
  simp [rowL, Value.oneCell']
theorem store73 {w : World} {B T : Nat} {f g : Nat → Bool} (h : Ear.Blk w B T (rowL f)) : (storeVar 161 ⟨B, 0, none⟩ (rowV g)).run Try.prog w = .ok () (w.setRow B (rowL g).toArray) :=
  run_storeVar_row w B T 161 (rowL f).toArray (rowL g).toArray h (size73 g) (by simp [rowL_len]) (one73 g)
theorem storeCells73 {w : World} {B T : Nat} {f g : Nat → Bool} (h : Ear.Blk w B T (rowL f)) : Sem.run Try.prog (storeCells ⟨B, 0, none⟩ (rowL g)) w = .ok () (w.setRow B (rowL g).toArray) := by
  have := run_storeCells_from (P := Try.prog) B T (rowL g) 0 (rowL f).toArray w h (by simp [rowL_len]) (by intro v hv; simp [rowL] at hv; obtain ⟨i, _, rfl⟩ := hv; rfl)
  simpa [rowL_len] using this
namespace Ear
theorem Blk.setRow' {W : World} {B g T : Nat} {cs cs' : List Value} (h : Blk W B T cs) (e : g = B) : Blk (W.setRow g cs'.toArray) B T cs' := by subst e; exact setRow_heap W _ _ _ _ _ h
theorem Blk.otherRow {W : World} {B g T : Nat} {cs : List Value} {c : Array Value} (h : Blk W B T cs) (e : B ≠ g) : Blk (W.setRow g c) B T cs := (setRow_other W g B c e).trans h
end Ear
theorem sel_at {v : BitVec 128} {w : World} {B T : Nat} (h : Ear.Blk w B T [.int .u32 (Ear.wd (v) 0), .int .u32 (Ear.wd (v) 1), .int .u32 (Ear.wd (v) 2), .int .u32 (Ear.wd (v) 3)]) (k : Nat) (hk : k < 128) : w.cell? ⟨B, k / 32, none⟩ = some (.int .u32 (Ear.wd v (k / 32))) := by
  rw [h.cell, Ear.sel v _ (by omega)]
theorem has_bitN (v : BitVec 128) (k : Nat) (h : k < 128) : (Go.bits .and .u32 (Ear.wd v (k / 32) / 2 ^ (k % 32)) 1 == 1) = v.getLsbD k := by
  have := Ear.has_bit v (k : Int) (by omega) (by omega)
  have e1 : ((k : Int) / 32).toNat = k / 32 := by omega
  have e2 : ((k : Int) % 32).toNat = k % 32 := by omega
  rw [e1, e2] at this
  exact this

attribute [local go_sem] rowL_len
set_option maxRecDepth 100000 in
set_option maxHeartbeats 1000000 in
theorem Row_calls (v : BitVec 128) (w : World) : Calls Try.prog 127 #[.agg #[.int .u32 (Ear.wd (v) 0), .int .u32 (Ear.wd (v) 1), .int .u32 (Ear.wd (v) 2), .int .u32 (Ear.wd (v) 3)]] w fun e w' => e = .returned (rowV v.getLsbD) ∧ Below w.heap.size w w' := by
  go_enter Try.func127, Try.ntmps127
  go_wp2
  go_loopw [4] (fun i wr => ∃ k : Nat, k ≤ 100 ∧ i = .int .i64 k ∧ Below w.heap.size w wr ∧ Ear.Blk wr w.heap.size 24 [.int .u32 (Ear.wd (v) 0), .int .u32 (Ear.wd (v) 1), .int .u32 (Ear.wd (v) 2), .int .u32 (Ear.wd (v) 3)] ∧
    Ear.Blk wr (w.heap.size + 1) 161 (rowL fun _ => false) ∧ Ear.Blk wr (w.heap.size + 2) 161 (rowL fun j => decide (j < k) && v.getLsbD j)) (fun i _ => 100 - (intOf i).toNat)
  case atStart =>
    refine ⟨0, by omega, rfl, ?_, ?_, ?_, ?_⟩
    · go_grown
    · (repeat' (first | (show Ear.Blk _ _ _ _; with_reducible assumption) | ((with_reducible apply Ear.Blk.new'); (simp only [World.size_alloc, World.size_setCell, World.size_drew, setRow_size]; done)) | (with_reducible apply Ear.Blk.alloc) | (with_reducible apply Ear.Blk.drew) | (with_reducible apply Ear.Blk.set') | (with_reducible apply Ear.Blk.setRow') | (with_reducible apply Ear.Blk.otherRow) | (with_reducible apply Ear.Blk.other) | (show List.set _ _ _ = _; first | exact HSET.out | exact Ear.set_xor _ _ (by omega) | exact Ear.set_or _ _ (by omega) | rfl) | (show _ ≠ _; (try simp only [World.size_alloc, World.size_setCell, World.size_drew, setRow_size]); omega) | (show _ < _; (try simp only [World.size_alloc, World.size_setCell, World.size_drew, setRow_size]); omega)))
    · rw [zero73]
      (repeat' (first | (show Ear.Blk _ _ _ _; with_reducible assumption) | ((with_reducible apply Ear.Blk.new'); (simp only [World.size_alloc, World.size_setCell, World.size_drew, setRow_size]; done)) | (with_reducible apply Ear.Blk.alloc) | (with_reducible apply Ear.Blk.drew) | (with_reducible apply Ear.Blk.set') | (with_reducible apply Ear.Blk.setRow') | (with_reducible apply Ear.Blk.otherRow) | (with_reducible apply Ear.Blk.other) | (show List.set _ _ _ = _; first | exact HSET.out | exact Ear.set_xor _ _ (by omega) | exact Ear.set_or _ _ (by omega) | rfl) | (show _ ≠ _; (try simp only [World.size_alloc, World.size_setCell, World.size_drew, setRow_size]); omega) | (show _ < _; (try simp only [World.size_alloc, World.size_setCell, World.size_drew, setRow_size]); omega)))
    · simp only [Nat.not_lt_zero, decide_false, Bool.false_and]
      rw [zero73]
      (repeat' (first | (show Ear.Blk _ _ _ _; with_reducible assumption) | ((with_reducible apply Ear.Blk.new'); (simp only [World.size_alloc, World.size_setCell, World.size_drew, setRow_size]; done)) | (with_reducible apply Ear.Blk.alloc) | (with_reducible apply Ear.Blk.drew) | (with_reducible apply Ear.Blk.set') | (with_reducible apply Ear.Blk.setRow') | (with_reducible apply Ear.Blk.otherRow) | (with_reducible apply Ear.Blk.other) | (show List.set _ _ _ = _; first | exact HSET.out | exact Ear.set_xor _ _ (by omega) | exact Ear.set_or _ _ (by omega) | rfl) | (show _ ≠ _; (try simp only [World.size_alloc, World.size_setCell, World.size_drew, setRow_size]); omega) | (show _ < _; (try simp only [World.size_alloc, World.size_setCell, World.size_drew, setRow_size]); omega)))
  case round =>
    obtain ⟨k, hk, rfl, hB, hx_1, hy_1, hz_1⟩ := hrel
    have hs := hB.size
    have hx_1_l := hx_1.lt
    have hy_1_l := hy_1.lt
    have hz_1_l := hz_1.lt
    by_cases hlt : k < 100
    · have hc := sel_at hx_1 k (by omega)
      have hzc := hz_1.cell k
      rw [rowL_get _ _ hlt] at hzc
      have hzf := hz_1.frozen k
      have HB := Lib.hid (has_bitN v k (by omega))
      have HZ := Lib.hid hz_1
      clear hz_1
      go_wp2
      rw [HB.out]
      go_roundw
      case rel =>
        refine ⟨k + 1, hlt, by go_num, by go_grown, by (repeat' (first | (show Ear.Blk _ _ _ _; with_reducible assumption) | ((with_reducible apply Ear.Blk.new'); (simp only [World.size_alloc, World.size_setCell, World.size_drew, setRow_size]; done)) | (with_reducible apply Ear.Blk.alloc) | (with_reducible apply Ear.Blk.drew) | (with_reducible apply Ear.Blk.set') | (with_reducible apply Ear.Blk.setRow') | (with_reducible apply Ear.Blk.otherRow) | (with_reducible apply Ear.Blk.other) | (show List.set _ _ _ = _; first | exact HSET.out | exact Ear.set_xor _ _ (by omega) | exact Ear.set_or _ _ (by omega) | rfl) | (show _ ≠ _; (try simp only [World.size_alloc, World.size_setCell, World.size_drew, setRow_size]); omega) | (show _ < _; (try simp only [World.size_alloc, World.size_setCell, World.size_drew, setRow_size]); omega))), by (repeat' (first | (show Ear.Blk _ _ _ _; with_reducible assumption) | ((with_reducible apply Ear.Blk.new'); (simp only [World.size_alloc, World.size_setCell, World.size_drew, setRow_size]; done)) | (with_reducible apply Ear.Blk.alloc) | (with_reducible apply Ear.Blk.drew) | (with_reducible apply Ear.Blk.set') | (with_reducible apply Ear.Blk.setRow') | (with_reducible apply Ear.Blk.otherRow) | (with_reducible apply Ear.Blk.other) | (show List.set _ _ _ = _; first | exact HSET.out | exact Ear.set_xor _ _ (by omega) | exact Ear.set_or _ _ (by omega) | rfl) | (show _ ≠ _; (try simp only [World.size_alloc, World.size_setCell, World.size_drew, setRow_size]); omega) | (show _ < _; (try simp only [World.size_alloc, World.size_setCell, World.size_drew, setRow_size]); omega))), Ear.Blk.set' HZ.out (rowL_set _ _ _ _ ?_)⟩
        intro i hi
        by_cases hik : i = k
        · subst hik; simp
        · have : decide (i < k + 1) = decide (i < k) := by rw [decide_eq_decide]; omega
          simp [hik, this]
      case measure => simp [intOf]; omega
    · have hk' : k = 100 := by omega
      subst hk'
      have e : (rowL fun j => decide (j < 100) && v.getLsbD j) = rowL v.getLsbD := rowL_congr (fun i hi => by simp [hi])
      rw [e] at hz_1
      have HZ := Lib.hid hz_1
      have hst := fun g => storeCells73 (g := g) hy_1
      have hy := hy_1.setRow' (cs' := rowL v.getLsbD) rfl
      have HY := Lib.hid hy
      clear hz_1 hy_1 e hy
      go_wp2_with (refine wpList_load_row rfl 161 _ rfl _ rfl _ _ (0, 0) _ (HZ.out) Try.underlying161 rfl (size73 _) ?_)
      refine bodyPost_ret (v := rowV v.getLsbD) (results_cell_row (p := 2) (by kernel_rfl) _ _ _ _ _ (0, 0) _ rfl HY.out Try.underlying161 rfl (size73 _)) rfl ⟨rfl, ?_⟩
      exact below_setRow hB (by omega) _
end Go.Proofs.Ytjopmnfmifbmbaa
