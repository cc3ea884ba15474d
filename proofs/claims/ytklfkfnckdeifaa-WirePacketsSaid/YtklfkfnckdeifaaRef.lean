/-
  Rows of bools: how they are read and written; what Row and Make of the document's answer come to.
  What Make and Clean of the document's answer come to.
  What Clean, Has, With, Without of the document's answer come to.
-/
import Derived.Test.YtklfkfnckdeifaaSets
import Derived.Test.YtklfkfnckdeifaaEq
import Derived.Laws.Rows
import Derived.Laws.Tables
import Derived.Laws.CopyOwn
import Derived.WalkKit
import Derived.LoopTactic
import Derived.WalkSpells
import Derived.WalkLawsBesides
import Derived.Handy
import Derived.Lib.Hide
import Derived.Test.YtklfkfnckdeifaaMath
import Derived.Deep.WholeRow
import Derived.Deep.Cut
section
namespace Go.Proofs.Ytklfkfnckdeifaa
set_option linter.unusedSimpArgs false
set_option linter.unusedVariables false
open Go.RowKit

/-- A row of a hundred bools. -/
def rowL (f : Nat → Bool) : List Value := (List.range 100).map fun i => Value.bool (f i)
theorem rowL_len (f : Nat → Bool) : (rowL f).length = 100 := by simp [rowL]
theorem rowL_congr {f g : Nat → Bool} (h : ∀ i, i < 100 → f i = g i) : rowL f = rowL g := by
  unfold rowL
  apply List.map_congr_left
  intro i hi
  rw [h i (List.mem_range.1 hi)]
theorem rowL_get (f : Nat → Bool) (i : Nat) (h : i < 100) : (rowL f)[i]? = some (.bool (f i)) := by
  unfold rowL
  rw [List.getElem?_map, List.getElem?_range h]; rfl
theorem rowL_set (f g : Nat → Bool) (k : Nat) (b : Bool) (h : ∀ i, i < 100 → (if i = k then b else f i) = g i) : (rowL f).set k (.bool b) = rowL g := by
  rw [← rowL_congr h]
  apply List.ext_getElem?
  intro i
  rw [List.getElem?_set]
  by_cases hk : k = i
  · subst hk
    simp only [rowL_len, if_true]
    by_cases hi : k < 100
    · rw [if_pos hi, rowL_get _ _ hi]; simp
    · rw [if_neg hi, List.getElem?_eq_none (by rw [rowL_len]; omega)]
  · rw [if_neg hk]
    by_cases hi : i < 100
    · rw [rowL_get _ _ hi, rowL_get _ _ hi]; simp [Ne.symm hk]
    · rw [List.getElem?_eq_none (by rw [rowL_len]; omega), List.getElem?_eq_none (by rw [rowL_len]; omega)]
abbrev rowV (f : Nat → Bool) : Value := .agg (rowL f).toArray

theorem zero73 : Try.zeroCells98 = (rowL fun _ => false).toArray := by kernel_rfl
theorem size73 (f : Nat → Bool) : (Try.prog.info? 98).map (·.size) = some (rowL f).toArray.size := by
  rw [List.size_toArray, rowL_len]; kernel_rfl
theorem load73 {w : World} {B T : Nat} {f : Nat → Bool} (h : Ear.Blk w B T (rowL f)) : (loadVar 98 ⟨B, 0, none⟩).run Try.prog w = .ok (rowV f) w :=
  run_loadVar_row w B T 98 (rowL f).toArray (0, 0) _ h Try.underlying98 rfl (size73 f)
theorem one73 (f : Nat → Bool) : (rowL f).toArray.all (·.oneCell') = true := by
  simp [rowL, Value.oneCell']
theorem store73 {w : World} {B T : Nat} {f g : Nat → Bool} (h : Ear.Blk w B T (rowL f)) : (storeVar 98 ⟨B, 0, none⟩ (rowV g)).run Try.prog w = .ok () (w.setRow B (rowL g).toArray) :=
  run_storeVar_row w B T 98 (rowL f).toArray (rowL g).toArray h (size73 g) (by simp [rowL_len]) (one73 g)
theorem storeCells73 {w : World} {B T : Nat} {f g : Nat → Bool} (h : Ear.Blk w B T (rowL f)) : Sem.run Try.prog (storeCells ⟨B, 0, none⟩ (rowL g)) w = .ok () (w.setRow B (rowL g).toArray) := by
  have := run_storeCells_from (P := Try.prog) B T (rowL g) 0 (rowL f).toArray w h (by simp [rowL_len]) (by intro v hv; simp [rowL] at hv; obtain ⟨i, _, rfl⟩ := hv; rfl)
  simpa [rowL_len] using this
namespace Ear
theorem Blk.setRow' {W : World} {B g T : Nat} {cs cs' : List Value} (h : Blk W B T cs) (e : g = B) : Blk (W.setRow g cs'.toArray) B T cs' := by subst e; exact setRow_heap W _ _ _ _ _ h
theorem Blk.otherRow {W : World} {B g T : Nat} {cs : List Value} {c : Array Value} (h : Blk W B T cs) (e : B ≠ g) : Blk (W.setRow g c) B T cs := (setRow_other W g B c e).trans h
end Ear
theorem sel_at {v : BitVec 128} {w : World} {B T : Nat} (h : Ear.Blk w B T [.int .u32 (Ear.wd (v) 0), .int .u32 (Ear.wd (v) 1), .int .u32 (Ear.wd (v) 2), .int .u32 (Ear.wd (v) 3)]) (k : Nat) (hk : k < 128) : w.cell? ⟨B, k / 32, none⟩ = some (.int .u32 (Ear.wd v (k / 32))) := by
  rw [h.cell, Ear.sel v _ (by omega)]
theorem has_bitN (v : BitVec 128) (k : Nat) (h : k < 128) : (Go.bits .and .u32 (Ear.wd v (k / 32) / 2 ^ (k % 32)) 1 == 1) = v.getLsbD k := by
  have := Ear.has_bit v (k : Int) (by omega) (by omega)
  have e1 : ((k : Int) / 32).toNat = k / 32 := by omega
  have e2 : ((k : Int) % 32).toNat = k % 32 := by omega
  rw [e1, e2] at this
  exact this

attribute [local go_sem] rowL_len
set_option maxRecDepth 100000 in
set_option maxHeartbeats 1000000 in
theorem Row_calls (v : BitVec 128) (w : World) : Calls Try.prog 51 #[.agg #[.int .u32 (Ear.wd (v) 0), .int .u32 (Ear.wd (v) 1), .int .u32 (Ear.wd (v) 2), .int .u32 (Ear.wd (v) 3)]] w fun e w' => e = .returned (rowV v.getLsbD) ∧ Below w.heap.size w w' := by
  go_enter Try.func51, Try.ntmps51
  go_wp2
  go_loopw [4] (fun i wr => ∃ k : Nat, k ≤ 100 ∧ i = .int .i64 k ∧ Below w.heap.size w wr ∧ Ear.Blk wr w.heap.size 30 [.int .u32 (Ear.wd (v) 0), .int .u32 (Ear.wd (v) 1), .int .u32 (Ear.wd (v) 2), .int .u32 (Ear.wd (v) 3)] ∧
    Ear.Blk wr (w.heap.size + 1) 98 (rowL fun _ => false) ∧ Ear.Blk wr (w.heap.size + 2) 98 (rowL fun j => decide (j < k) && v.getLsbD j)) (fun i _ => 100 - (intOf i).toNat)
  case atStart =>
    refine ⟨0, by omega, rfl, ?_, ?_, ?_, ?_⟩
    · go_grown
    · (repeat' (first | (show Ear.Blk _ _ _ _; with_reducible assumption) | ((with_reducible apply Ear.Blk.new'); (simp only [World.size_alloc, World.size_setCell, World.size_drew, setRow_size]; done)) | (with_reducible apply Ear.Blk.alloc) | (with_reducible apply Ear.Blk.drew) | (with_reducible apply Ear.Blk.set') | (with_reducible apply Ear.Blk.setRow') | (with_reducible apply Ear.Blk.otherRow) | (with_reducible apply Ear.Blk.other) | (show List.set _ _ _ = _; first | exact HSET.out | exact Ear.set_xor _ _ (by omega) | exact Ear.set_or _ _ (by omega) | rfl) | (show _ ≠ _; (try simp only [World.size_alloc, World.size_setCell, World.size_drew, setRow_size]); omega) | (show _ < _; (try simp only [World.size_alloc, World.size_setCell, World.size_drew, setRow_size]); omega)))
    · rw [zero73]
      (repeat' (first | (show Ear.Blk _ _ _ _; with_reducible assumption) | ((with_reducible apply Ear.Blk.new'); (simp only [World.size_alloc, World.size_setCell, World.size_drew, setRow_size]; done)) | (with_reducible apply Ear.Blk.alloc) | (with_reducible apply Ear.Blk.drew) | (with_reducible apply Ear.Blk.set') | (with_reducible apply Ear.Blk.setRow') | (with_reducible apply Ear.Blk.otherRow) | (with_reducible apply Ear.Blk.other) | (show List.set _ _ _ = _; first | exact HSET.out | exact Ear.set_xor _ _ (by omega) | exact Ear.set_or _ _ (by omega) | rfl) | (show _ ≠ _; (try simp only [World.size_alloc, World.size_setCell, World.size_drew, setRow_size]); omega) | (show _ < _; (try simp only [World.size_alloc, World.size_setCell, World.size_drew, setRow_size]); omega)))
    · simp only [Nat.not_lt_zero, decide_false, Bool.false_and]
      rw [zero73]
      (repeat' (first | (show Ear.Blk _ _ _ _; with_reducible assumption) | ((with_reducible apply Ear.Blk.new'); (simp only [World.size_alloc, World.size_setCell, World.size_drew, setRow_size]; done)) | (with_reducible apply Ear.Blk.alloc) | (with_reducible apply Ear.Blk.drew) | (with_reducible apply Ear.Blk.set') | (with_reducible apply Ear.Blk.setRow') | (with_reducible apply Ear.Blk.otherRow) | (with_reducible apply Ear.Blk.other) | (show List.set _ _ _ = _; first | exact HSET.out | exact Ear.set_xor _ _ (by omega) | exact Ear.set_or _ _ (by omega) | rfl) | (show _ ≠ _; (try simp only [World.size_alloc, World.size_setCell, World.size_drew, setRow_size]); omega) | (show _ < _; (try simp only [World.size_alloc, World.size_setCell, World.size_drew, setRow_size]); omega)))
  case round =>
    obtain ⟨k, hk, rfl, hB, hx_1, hy_1, hz_1⟩ := hrel
    have hs := hB.size
    have hx_1_l := hx_1.lt
    have hy_1_l := hy_1.lt
    have hz_1_l := hz_1.lt
    by_cases hlt : k < 100
    · have hc := sel_at hx_1 k (by omega)
      have hzc := hz_1.cell k
      rw [rowL_get _ _ hlt] at hzc
      have hzf := hz_1.frozen k
      have HB := Lib.hid (has_bitN v k (by omega))
      have HZ := Lib.hid hz_1
      clear hz_1
      go_wp2
      rw [HB.out]
      go_roundw
      case rel =>
        refine ⟨k + 1, hlt, by go_num, by go_grown, by (repeat' (first | (show Ear.Blk _ _ _ _; with_reducible assumption) | ((with_reducible apply Ear.Blk.new'); (simp only [World.size_alloc, World.size_setCell, World.size_drew, setRow_size]; done)) | (with_reducible apply Ear.Blk.alloc) | (with_reducible apply Ear.Blk.drew) | (with_reducible apply Ear.Blk.set') | (with_reducible apply Ear.Blk.setRow') | (with_reducible apply Ear.Blk.otherRow) | (with_reducible apply Ear.Blk.other) | (show List.set _ _ _ = _; first | exact HSET.out | exact Ear.set_xor _ _ (by omega) | exact Ear.set_or _ _ (by omega) | rfl) | (show _ ≠ _; (try simp only [World.size_alloc, World.size_setCell, World.size_drew, setRow_size]); omega) | (show _ < _; (try simp only [World.size_alloc, World.size_setCell, World.size_drew, setRow_size]); omega))), by (repeat' (first | (show Ear.Blk _ _ _ _; with_reducible assumption) | ((with_reducible apply Ear.Blk.new'); (simp only [World.size_alloc, World.size_setCell, World.size_drew, setRow_size]; done)) | (with_reducible apply Ear.Blk.alloc) | (with_reducible apply Ear.Blk.drew) | (with_reducible apply Ear.Blk.set') | (with_reducible apply Ear.Blk.setRow') | (with_reducible apply Ear.Blk.otherRow) | (with_reducible apply Ear.Blk.other) | (show List.set _ _ _ = _; first | exact HSET.out | exact Ear.set_xor _ _ (by omega) | exact Ear.set_or _ _ (by omega) | rfl) | (show _ ≠ _; (try simp only [World.size_alloc, World.size_setCell, World.size_drew, setRow_size]); omega) | (show _ < _; (try simp only [World.size_alloc, World.size_setCell, World.size_drew, setRow_size]); omega))), Ear.Blk.set' HZ.out (rowL_set _ _ _ _ ?_)⟩
        intro i hi
        by_cases hik : i = k
        · subst hik; simp
        · have : decide (i < k + 1) = decide (i < k) := by rw [decide_eq_decide]; omega
          simp [hik, this]
      case measure => simp [intOf]; omega
    · have hk' : k = 100 := by omega
      subst hk'
      have e : (rowL fun j => decide (j < 100) && v.getLsbD j) = rowL v.getLsbD := rowL_congr (fun i hi => by simp [hi])
      rw [e] at hz_1
      have HZ := Lib.hid hz_1
      have hst := fun g => storeCells73 (g := g) hy_1
      have hy := hy_1.setRow' (cs' := rowL v.getLsbD) rfl
      have HY := Lib.hid hy
      clear hz_1 hy_1 e hy
      go_wp2_with (refine wpList_load_row rfl 98 _ rfl _ rfl _ _ (0, 0) _ (HZ.out) Try.underlying98 rfl (size73 _) ?_)
      refine bodyPost_ret (v := rowV v.getLsbD) (results_cell_row (p := 2) (by kernel_rfl) _ _ _ _ _ (0, 0) _ rfl HY.out Try.underlying98 rfl (size73 _)) rfl ⟨rfl, ?_⟩
      exact below_setRow hB (by omega) _
end Go.Proofs.Ytklfkfnckdeifaa
end
section
namespace Go.Proofs.Ytklfkfnckdeifaa
set_option linter.unusedSimpArgs false
set_option linter.unusedVariables false
open Go.RowKit
attribute [local go_sem] rowL_len
attribute [local irreducible] Ear.wd Ear.one Ear.clean
set_option maxRecDepth 100000 in
set_option maxHeartbeats 2000000 in
theorem Make_calls (f : Nat → Bool) (w : World) : Calls Try.prog 73 #[rowV f] w fun e w' => e = .returned (.agg #[.int .u32 (Ear.wd (Ear.ofF f 100) 0), .int .u32 (Ear.wd (Ear.ofF f 100) 1), .int .u32 (Ear.wd (Ear.ofF f 100) 2), .int .u32 (Ear.wd (Ear.ofF f 100) 3)]) ∧ Below w.heap.size w w' := by
  go_enter Try.func73, Try.ntmps73
  go_wp2
  go_loopw [4] (fun i wr => ∃ k : Nat, k ≤ 100 ∧ i = .int .i64 k ∧ Below w.heap.size w wr ∧ Ear.Blk wr w.heap.size 98 (rowL f) ∧
    Ear.Blk wr (w.heap.size + 1) 30 [.int .u32 0, .int .u32 0, .int .u32 0, .int .u32 0] ∧ Ear.Blk wr (w.heap.size + 2) 30 [.int .u32 (Ear.wd (Ear.ofF f k) 0), .int .u32 (Ear.wd (Ear.ofF f k) 1), .int .u32 (Ear.wd (Ear.ofF f k) 2), .int .u32 (Ear.wd (Ear.ofF f k) 3)]) (fun i _ => 100 - (intOf i).toNat)
  case atStart =>
    refine ⟨0, by omega, rfl, ?_, ?_, ?_, ?_⟩
    · go_grown
    · (repeat' (first | (show Ear.Blk _ _ _ _; with_reducible assumption) | ((with_reducible apply Ear.Blk.new'); (simp only [World.size_alloc, World.size_setCell, World.size_drew, setRow_size]; done)) | (with_reducible apply Ear.Blk.alloc) | (with_reducible apply Ear.Blk.drew) | (with_reducible apply Ear.Blk.set') | (with_reducible apply Ear.Blk.setRow') | (with_reducible apply Ear.Blk.otherRow) | (with_reducible apply Ear.Blk.other) | (show List.set _ _ _ = _; first | exact HSET.out | exact Ear.set_xor _ _ (by omega) | exact Ear.set_or _ _ (by omega) | rfl) | (show _ ≠ _; (try simp only [World.size_alloc, World.size_setCell, World.size_drew, setRow_size]); omega) | (show _ < _; (try simp only [World.size_alloc, World.size_setCell, World.size_drew, setRow_size]); omega)))
    · (repeat' (first | (show Ear.Blk _ _ _ _; with_reducible assumption) | ((with_reducible apply Ear.Blk.new'); (simp only [World.size_alloc, World.size_setCell, World.size_drew, setRow_size]; done)) | (with_reducible apply Ear.Blk.alloc) | (with_reducible apply Ear.Blk.drew) | (with_reducible apply Ear.Blk.set') | (with_reducible apply Ear.Blk.setRow') | (with_reducible apply Ear.Blk.otherRow) | (with_reducible apply Ear.Blk.other) | (show List.set _ _ _ = _; first | exact HSET.out | exact Ear.set_xor _ _ (by omega) | exact Ear.set_or _ _ (by omega) | rfl) | (show _ ≠ _; (try simp only [World.size_alloc, World.size_setCell, World.size_drew, setRow_size]); omega) | (show _ < _; (try simp only [World.size_alloc, World.size_setCell, World.size_drew, setRow_size]); omega)))
    · simp only [Ear.ofF, Ear.wd_zero]
      (repeat' (first | (show Ear.Blk _ _ _ _; with_reducible assumption) | ((with_reducible apply Ear.Blk.new'); (simp only [World.size_alloc, World.size_setCell, World.size_drew, setRow_size]; done)) | (with_reducible apply Ear.Blk.alloc) | (with_reducible apply Ear.Blk.drew) | (with_reducible apply Ear.Blk.set') | (with_reducible apply Ear.Blk.setRow') | (with_reducible apply Ear.Blk.otherRow) | (with_reducible apply Ear.Blk.other) | (show List.set _ _ _ = _; first | exact HSET.out | exact Ear.set_xor _ _ (by omega) | exact Ear.set_or _ _ (by omega) | rfl) | (show _ ≠ _; (try simp only [World.size_alloc, World.size_setCell, World.size_drew, setRow_size]); omega) | (show _ < _; (try simp only [World.size_alloc, World.size_setCell, World.size_drew, setRow_size]); omega)))
  case round =>
    obtain ⟨k, hk, rfl, hB, hx_1, hy_1, hz_1⟩ := hrel
    have hs := hB.size
    have hx_1_l := hx_1.lt
    have hy_1_l := hy_1.lt
    have hz_1_l := hz_1.lt
    by_cases hlt : k < 100
    · have hc := sel_at hz_1 k (by omega)
      have hf := hz_1.frozen (k / 32)
      have hrc := hx_1.cell k
      rw [rowL_get _ _ hlt] at hrc
      have HE : Ear.ofF f (k + 1) = if f k then Ear.ofF f k ||| Ear.one k else Ear.ofF f k := rfl
      obtain ⟨c, hcc⟩ : ∃ c, Ear.ofF f k = c := ⟨_, rfl⟩
      rw [hcc] at *
      have HSET := Lib.hid (Ear.set_or c k (by omega))
      by_cases hfk : f k = true
      · rw [hfk] at hrc
        rw [if_pos hfk] at HE
        have HH := Lib.hid HE
        clear HE hfk hcc
        go_wp2
        refine Ear.Pl.wp_region_qs 11 (by kernel_rfl) (by kernel_rfl) ?_; simp only [List.take_succ_cons, List.take_zero, List.drop_succ_cons, List.drop_zero]
        (iterate 11 (refine Ear.Pl.wpQ_run (by rfl) ?_; apply Exists.intro; refine ⟨fun K Q hK w' hw' => ?_, ?_⟩; (focus (subst hw'; simp only [Act.put, List.setIfInBounds_toArray, List.set_cons_succ, List.set_cons_zero] at hK; go_wp2; try rfl)); simp only [Act.put, List.setIfInBounds_toArray, List.set_cons_succ, List.set_cons_zero]))
        refine Ear.Pl.wpQ_nil ?_
        rintro w' rfl
        go_wp2
        go_roundw
        case rel =>
          refine ⟨k + 1, hlt, by go_num, by go_grown, by (repeat' (first | (show Ear.Blk _ _ _ _; with_reducible assumption) | ((with_reducible apply Ear.Blk.new'); (simp only [World.size_alloc, World.size_setCell, World.size_drew, setRow_size]; done)) | (with_reducible apply Ear.Blk.alloc) | (with_reducible apply Ear.Blk.drew) | (with_reducible apply Ear.Blk.set') | (with_reducible apply Ear.Blk.setRow') | (with_reducible apply Ear.Blk.otherRow) | (with_reducible apply Ear.Blk.other) | (show List.set _ _ _ = _; first | exact HSET.out | exact Ear.set_xor _ _ (by omega) | exact Ear.set_or _ _ (by omega) | rfl) | (show _ ≠ _; (try simp only [World.size_alloc, World.size_setCell, World.size_drew, setRow_size]); omega) | (show _ < _; (try simp only [World.size_alloc, World.size_setCell, World.size_drew, setRow_size]); omega))), by (repeat' (first | (show Ear.Blk _ _ _ _; with_reducible assumption) | ((with_reducible apply Ear.Blk.new'); (simp only [World.size_alloc, World.size_setCell, World.size_drew, setRow_size]; done)) | (with_reducible apply Ear.Blk.alloc) | (with_reducible apply Ear.Blk.drew) | (with_reducible apply Ear.Blk.set') | (with_reducible apply Ear.Blk.setRow') | (with_reducible apply Ear.Blk.otherRow) | (with_reducible apply Ear.Blk.other) | (show List.set _ _ _ = _; first | exact HSET.out | exact Ear.set_xor _ _ (by omega) | exact Ear.set_or _ _ (by omega) | rfl) | (show _ ≠ _; (try simp only [World.size_alloc, World.size_setCell, World.size_drew, setRow_size]); omega) | (show _ < _; (try simp only [World.size_alloc, World.size_setCell, World.size_drew, setRow_size]); omega))), ?_⟩
          rw [HH.out]
          (repeat' (first | (show Ear.Blk _ _ _ _; with_reducible assumption) | ((with_reducible apply Ear.Blk.new'); (simp only [World.size_alloc, World.size_setCell, World.size_drew, setRow_size]; done)) | (with_reducible apply Ear.Blk.alloc) | (with_reducible apply Ear.Blk.drew) | (with_reducible apply Ear.Blk.set') | (with_reducible apply Ear.Blk.setRow') | (with_reducible apply Ear.Blk.otherRow) | (with_reducible apply Ear.Blk.other) | (show List.set _ _ _ = _; first | exact HSET.out | exact Ear.set_xor _ _ (by omega) | exact Ear.set_or _ _ (by omega) | rfl) | (show _ ≠ _; (try simp only [World.size_alloc, World.size_setCell, World.size_drew, setRow_size]); omega) | (show _ < _; (try simp only [World.size_alloc, World.size_setCell, World.size_drew, setRow_size]); omega)))
        case measure => simp [intOf]; omega
      · have hfk' : f k = false := by simpa using hfk
        rw [hfk'] at hrc
        rw [if_neg hfk] at HE
        have HH := Lib.hid HE
        clear HE hfk hfk' hcc
        go_wp2
        go_roundw
        case rel =>
          refine ⟨k + 1, hlt, by go_num, by go_grown, hx_1, hy_1, ?_⟩
          rw [HH.out]
          exact hz_1
        case measure => simp [intOf]; omega
    · have hk' : k = 100 := by omega
      subst hk'
      have hy_1_c0 := hy_1.cell 0; have hy_1_f0 := hy_1.frozen 0; have hy_1_c1 := hy_1.cell 1; have hy_1_f1 := hy_1.frozen 1; have hy_1_c2 := hy_1.cell 2; have hy_1_f2 := hy_1.frozen 2; have hy_1_c3 := hy_1.cell 3; have hy_1_f3 := hy_1.frozen 3
      have hz_1_c0 := hz_1.cell 0; have hz_1_f0 := hz_1.frozen 0; have hz_1_c1 := hz_1.cell 1; have hz_1_f1 := hz_1.frozen 1; have hz_1_c2 := hz_1.cell 2; have hz_1_f2 := hz_1.frozen 2; have hz_1_c3 := hz_1.cell 3; have hz_1_f3 := hz_1.frozen 3
      go_wp2
      refine bp_world (fun W => Below w.heap.size w W ∧ Ear.Blk W (w.heap.size + 1) 30 ([.int .u32 (Ear.wd (Ear.ofF f 100) 0), .int .u32 (Ear.wd (Ear.ofF f 100) 1), .int .u32 (Ear.wd (Ear.ofF f 100) 2), .int .u32 (Ear.wd (Ear.ofF f 100) 3)])) ⟨by go_grown, by (repeat' (first | (show Ear.Blk _ _ _ _; with_reducible assumption) | ((with_reducible apply Ear.Blk.new'); (simp only [World.size_alloc, World.size_setCell, World.size_drew, setRow_size]; done)) | (with_reducible apply Ear.Blk.alloc) | (with_reducible apply Ear.Blk.drew) | (with_reducible apply Ear.Blk.set') | (with_reducible apply Ear.Blk.setRow') | (with_reducible apply Ear.Blk.otherRow) | (with_reducible apply Ear.Blk.other) | (show List.set _ _ _ = _; first | exact HSET.out | exact Ear.set_xor _ _ (by omega) | exact Ear.set_or _ _ (by omega) | rfl) | (show _ ≠ _; (try simp only [World.size_alloc, World.size_setCell, World.size_drew, setRow_size]); omega) | (show _ < _; (try simp only [World.size_alloc, World.size_setCell, World.size_drew, setRow_size]); omega)))⟩ ?_; rintro w3 ⟨hB3, hx_3⟩; have hs3 := hB3.size; have hx_3_l := hx_3.lt; have hx_3_c0 := hx_3.cell 0; have hx_3_f0 := hx_3.frozen 0; have hx_3_c1 := hx_3.cell 1; have hx_3_f1 := hx_3.frozen 1; have hx_3_c2 := hx_3.cell 2; have hx_3_f2 := hx_3.frozen 2; have hx_3_c3 := hx_3.cell 3; have hx_3_f3 := hx_3.frozen 3
      refine bodyPost_ret (v := .agg #[.int .u32 (Ear.wd (Ear.ofF f 100) 0), .int .u32 (Ear.wd (Ear.ofF f 100) 1), .int .u32 (Ear.wd (Ear.ofF f 100) 2), .int .u32 (Ear.wd (Ear.ofF f 100) 3)]) (by simp [results, Try.results73, go_sem, hx_3_c0, hx_3_c1, hx_3_c2, hx_3_c3]) rfl ⟨rfl, hB3⟩

end Go.Proofs.Ytklfkfnckdeifaa
end
section
namespace Go.Proofs.Ytklfkfnckdeifaa
set_option linter.unusedSimpArgs false
set_option linter.unusedVariables false
open Go.RowKit
attribute [local go_sem] rowL_len
attribute [local irreducible] Ear.wd Ear.one Ear.clean
namespace Ear
theorem clean_or_one (v : BitVec 128) (k : Nat) (h : k < 100) : clean (v ||| one k) = clean v ||| one k := by
  apply BitVec.eq_of_getLsbD_eq
  intro i hi
  rw [clean_bit, BitVec.getLsbD_or, BitVec.getLsbD_or, clean_bit, one_bit]
  by_cases hik : i = k
  · subst hik; simp [h, hi]
  · simp [hik]
theorem clean_andNot_one (v : BitVec 128) (k : Nat) : clean (v &&& ~~~(one k)) = clean v &&& ~~~(one k) := by
  apply BitVec.eq_of_getLsbD_eq
  intro i hi
  rw [clean_bit, BitVec.getLsbD_and, BitVec.getLsbD_and, clean_bit]
  cases v.getLsbD i <;> cases (~~~(one k)).getLsbD i <;> simp
end Ear
theorem Make_eq {f : Nat → Bool} {v : BitVec 128} (h : ∀ i, i < 100 → f i = v.getLsbD i) (w : World) : Calls Try.prog 73 #[rowV f] w fun e w' => e = .returned (.agg #[.int .u32 (Ear.wd (Ear.clean v) 0), .int .u32 (Ear.wd (Ear.clean v) 1), .int .u32 (Ear.wd (Ear.clean v) 2), .int .u32 (Ear.wd (Ear.clean v) 3)]) ∧ Below w.heap.size w w' := by
  have := Make_calls f w
  rw [Ear.ofF_eq h] at this
  exact this

theorem idx73 (f : Nat → Bool) (k : Nat) (h : k < 100) (w : World) : Sem.run Try.prog (Instr.index 98 (rowV f) (.int .i64 (k : Int))) w = .ok (.bool (f k)) w := by
  have ha : (isAgg 4).run Try.prog w = .ok false w := by
    unfold isAgg
    rw [Sem.run_bind, run_underlying Try.underlying4 w]
    simp
  have hg : (rowL f).toArray[k]? = some (.bool (f k)) := by rw [List.getElem?_toArray]; exact rowL_get f k h
  have hp : (part 4 (rowL f).toArray k).run Try.prog w = .ok (.bool (f k)) w := by
    simp [part, Sem.run_bind, ha, hg]
  have hsz : (sizeOf 4).run Try.prog w = .ok 1 w := by kernel_rfl
  have hlt : (0 : Int) ≤ (k : Int) ∧ (k : Int) < ((100 : Nat) : Int) := by omega
  have hlt' : (k : Int) < 100 := by omega
  simp [Instr.index, Sem.run_bind, asIntOf, run_underlying Try.underlying98, hsz, hlt', hp]
  intro hc; omega

set_option maxRecDepth 100000 in
set_option maxHeartbeats 2000000 in
theorem RHas_yes (v : BitVec 128) (k : Nat) (h : k < 100) (w : World) : Calls Try.prog 41 #[.agg #[.int .u32 (Ear.wd (v) 0), .int .u32 (Ear.wd (v) 1), .int .u32 (Ear.wd (v) 2), .int .u32 (Ear.wd (v) 3)], .int .i64 (k : Int)] w fun e w' => e = .returned (.bool (v.getLsbD k)) ∧ Below w.heap.size w w' := by
  have hidx := fun w => idx73 v.getLsbD k h w
  go_enter Try.func41, Try.ntmps41
  go_wp2_with (first | (go_at_call 51; refine (Row_calls v _).mono ?_; rintro e w1 ⟨rfl, hb1⟩; have hB1 : Below w.heap.size w w1 := Below.trans (by go_grown) (hb1.mono (by (try simp only [World.size_alloc, World.size_setCell, World.size_drew, setRow_size]); omega)); have hs1 := hB1.size; clear hb1))
  go_ret
  exact ⟨rfl, hB1⟩
set_option maxRecDepth 100000 in
set_option maxHeartbeats 2000000 in
theorem RHas_no (v : BitVec 128) (i : Int) (h : i < 0 ∨ 100 ≤ i) (w : World) : Calls Try.prog 41 #[.agg #[.int .u32 (Ear.wd (v) 0), .int .u32 (Ear.wd (v) 1), .int .u32 (Ear.wd (v) 2), .int .u32 (Ear.wd (v) 3)], .int .i64 i] w fun e w' => e = .returned (.bool false) ∧ Below w.heap.size w w' := by
  by_cases hi : i < 0
  all_goals
    go_enter Try.func41, Try.ntmps41
    go_wp2
    go_ret
    exact ⟨rfl, by go_grown⟩

theorem storeNew (W : World) (g : Nat → Bool) : Sem.run Try.prog (storeCells ⟨W.heap.size, 0, none⟩ (rowL g)) (W.alloc (.cells Try.zeroCells98 98)) = .ok () (W.alloc (.cells (rowL g).toArray 98)) := by
  rw [zero73, storeCells73 (Ear.Blk.new W _ _), World.setRow_alloc_new]
attribute [local go_sem] storeNew
set_option maxRecDepth 100000 in
set_option maxHeartbeats 2000000 in
theorem RWith_yes (v : BitVec 128) (k : Nat) (h : k < 100) (w : World) : Calls Try.prog 65 #[.agg #[.int .u32 (Ear.wd (v) 0), .int .u32 (Ear.wd (v) 1), .int .u32 (Ear.wd (v) 2), .int .u32 (Ear.wd (v) 3)], .int .i64 (k : Int)] w fun e w' => e = .returned (.tuple #[.agg #[.int .u32 (Ear.wd (Ear.clean v ||| Ear.one k) 0), .int .u32 (Ear.wd (Ear.clean v ||| Ear.one k) 1), .int .u32 (Ear.wd (Ear.clean v ||| Ear.one k) 2), .int .u32 (Ear.wd (Ear.clean v ||| Ear.one k) 3)], .int .i64 0]) ∧ Below w.heap.size w w' := by
  go_enter Try.func65, Try.ntmps65
  go_upto_region 5 with ((go_at_call 51; refine (Row_calls v _).mono ?_; rintro e w1 ⟨rfl, hb1⟩; have hB1 : Below w.heap.size w w1 := Below.trans (by go_grown) (hb1.mono (by (try simp only [World.size_alloc, World.size_setCell, World.size_drew, setRow_size]); omega)); have hs1 := hB1.size; have hy_1 : Ear.Blk w1 (w.heap.size + 1) 30 ([.int .u32 0, .int .u32 0, .int .u32 0, .int .u32 0]) := (by (repeat' (first | (show Ear.Blk _ _ _ _; with_reducible assumption) | ((with_reducible apply Ear.Blk.new'); (simp only [World.size_alloc, World.size_setCell, World.size_drew, setRow_size]; done)) | (with_reducible apply Ear.Blk.alloc) | (with_reducible apply Ear.Blk.drew) | (with_reducible apply Ear.Blk.set') | (with_reducible apply Ear.Blk.setRow') | (with_reducible apply Ear.Blk.otherRow) | (with_reducible apply Ear.Blk.other) | (with_reducible apply Ear.Blk.below (hb := hb1)) | (show List.set _ _ _ = _; first | exact HSET.out | exact Ear.set_xor _ _ (by omega) | exact Ear.set_or _ _ (by omega) | rfl) | (show _ ≠ _; (try simp only [World.size_alloc, World.size_setCell, World.size_drew, setRow_size]); omega) | (show _ < _; (try simp only [World.size_alloc, World.size_setCell, World.size_drew, setRow_size]); omega)))); clear hb1; have hy_1_l := hy_1.lt; have hy_1_c0 := hy_1.cell 0; have hy_1_f0 := hy_1.frozen 0; have hy_1_c1 := hy_1.cell 1; have hy_1_f1 := hy_1.frozen 1; have hy_1_c2 := hy_1.cell 2; have hy_1_f2 := hy_1.frozen 2; have hy_1_c3 := hy_1.cell 3; have hy_1_f3 := hy_1.frozen 3))
  rw [rowL_set _ (fun j => if j = k then true else v.getLsbD j) k true (fun _ _ => rfl)]
  apply wp_region_lit
  refine wpList_load_row rfl 98 _ rfl _ rfl _ _ (0, 0) _ (Ear.Blk.new _ _ _) Try.underlying98 rfl (size73 _) ?_
  go_wp2_with (go_at_call 73; refine (Make_eq (v := v ||| Ear.one k) (fun i hi => by rw [BitVec.getLsbD_or, Ear.one_bit]; by_cases hik : i = k <;> simp [hik]; omega) _).mono ?_; rintro e w2 ⟨rfl, hb2⟩; have hB2 : Below w.heap.size w w2 := Below.trans (by go_grown) (hb2.mono (by (try simp only [World.size_alloc, World.size_setCell, World.size_drew, setRow_size]); omega)); have hs2 := hB2.size; have hy_2 : Ear.Blk w2 (w.heap.size + 1) 30 ([.int .u32 0, .int .u32 0, .int .u32 0, .int .u32 0]) := (by (repeat' (first | (show Ear.Blk _ _ _ _; with_reducible assumption) | ((with_reducible apply Ear.Blk.new'); (simp only [World.size_alloc, World.size_setCell, World.size_drew, setRow_size]; done)) | (with_reducible apply Ear.Blk.alloc) | (with_reducible apply Ear.Blk.drew) | (with_reducible apply Ear.Blk.set') | (with_reducible apply Ear.Blk.setRow') | (with_reducible apply Ear.Blk.otherRow) | (with_reducible apply Ear.Blk.other) | (with_reducible apply Ear.Blk.below (hb := hb2)) | (show List.set _ _ _ = _; first | exact HSET.out | exact Ear.set_xor _ _ (by omega) | exact Ear.set_or _ _ (by omega) | rfl) | (show _ ≠ _; (try simp only [World.size_alloc, World.size_setCell, World.size_drew, setRow_size]); omega) | (show _ < _; (try simp only [World.size_alloc, World.size_setCell, World.size_drew, setRow_size]); omega)))); clear hb2; have hy_2_l := hy_2.lt; have hy_2_c0 := hy_2.cell 0; have hy_2_f0 := hy_2.frozen 0; have hy_2_c1 := hy_2.cell 1; have hy_2_f1 := hy_2.frozen 1; have hy_2_c2 := hy_2.cell 2; have hy_2_f2 := hy_2.frozen 2; have hy_2_c3 := hy_2.cell 3; have hy_2_f3 := hy_2.frozen 3)
  have hcl : Ear.clean (v ||| Ear.one k) = Ear.clean v ||| Ear.one k := Ear.clean_or_one v k h
  refine bp_world (fun W => Below w.heap.size w W ∧ Ear.Blk W (w.heap.size + 1) 30 ([.int .u32 (Ear.wd (Ear.clean (v ||| Ear.one k)) 0), .int .u32 (Ear.wd (Ear.clean (v ||| Ear.one k)) 1), .int .u32 (Ear.wd (Ear.clean (v ||| Ear.one k)) 2), .int .u32 (Ear.wd (Ear.clean (v ||| Ear.one k)) 3)])) ⟨by go_grown, by (repeat' (first | (show Ear.Blk _ _ _ _; with_reducible assumption) | ((with_reducible apply Ear.Blk.new'); (simp only [World.size_alloc, World.size_setCell, World.size_drew, setRow_size]; done)) | (with_reducible apply Ear.Blk.alloc) | (with_reducible apply Ear.Blk.drew) | (with_reducible apply Ear.Blk.set') | (with_reducible apply Ear.Blk.setRow') | (with_reducible apply Ear.Blk.otherRow) | (with_reducible apply Ear.Blk.other) | (show List.set _ _ _ = _; first | exact HSET.out | exact Ear.set_xor _ _ (by omega) | exact Ear.set_or _ _ (by omega) | rfl) | (show _ ≠ _; (try simp only [World.size_alloc, World.size_setCell, World.size_drew, setRow_size]); omega) | (show _ < _; (try simp only [World.size_alloc, World.size_setCell, World.size_drew, setRow_size]); omega)))⟩ ?_; rintro w3 ⟨hB3, hy_3⟩; have hs3 := hB3.size; have hy_3_l := hy_3.lt; have hy_3_c0 := hy_3.cell 0; have hy_3_f0 := hy_3.frozen 0; have hy_3_c1 := hy_3.cell 1; have hy_3_f1 := hy_3.frozen 1; have hy_3_c2 := hy_3.cell 2; have hy_3_f2 := hy_3.frozen 2; have hy_3_c3 := hy_3.cell 3; have hy_3_f3 := hy_3.frozen 3
  rw [hcl] at *
  refine bodyPost_ret (v := .tuple #[.agg #[.int .u32 (Ear.wd (Ear.clean v ||| Ear.one k) 0), .int .u32 (Ear.wd (Ear.clean v ||| Ear.one k) 1), .int .u32 (Ear.wd (Ear.clean v ||| Ear.one k) 2), .int .u32 (Ear.wd (Ear.clean v ||| Ear.one k) 3)], .int .i64 0]) (by simp [results, Try.results65, go_sem, hy_3_c0, hy_3_c1, hy_3_c2, hy_3_c3]) rfl ⟨rfl, hB3⟩

set_option maxRecDepth 100000 in
set_option maxHeartbeats 2000000 in
theorem RWith_no (v : BitVec 128) (i : Int) (h : i < 0 ∨ 100 ≤ i) (w : World) : Calls Try.prog 65 #[.agg #[.int .u32 (Ear.wd (v) 0), .int .u32 (Ear.wd (v) 1), .int .u32 (Ear.wd (v) 2), .int .u32 (Ear.wd (v) 3)], .int .i64 i] w fun e w' => e = .returned (.tuple #[.agg #[.int .u32 (Ear.wd (0#128) 0), .int .u32 (Ear.wd (0#128) 1), .int .u32 (Ear.wd (0#128) 2), .int .u32 (Ear.wd (0#128) 3)], .int .i64 30]) ∧ Below w.heap.size w w' := by
  by_cases hi : i < 0
  all_goals
    go_enter Try.func65, Try.ntmps65
    go_wp2
    refine bodyPost_ret (v := .tuple #[.agg #[.int .u32 (Ear.wd (0#128) 0), .int .u32 (Ear.wd (0#128) 1), .int .u32 (Ear.wd (0#128) 2), .int .u32 (Ear.wd (0#128) 3)], .int .i64 30]) (by simp [results, Try.results65, go_sem, Ear.wd_zero]) rfl ⟨rfl, ?_⟩
    go_grown

end Go.Proofs.Ytklfkfnckdeifaa
end
