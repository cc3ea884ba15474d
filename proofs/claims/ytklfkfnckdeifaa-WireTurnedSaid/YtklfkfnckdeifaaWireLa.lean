/-
  Every note's Bytes, Kind, Sender, Notices.
-/
import Derived.Test.YtklfkfnckdeifaaWireK
namespace Go.Proofs.Ytklfkfnckdeifaa
set_option linter.unusedSimpArgs false
set_option linter.unusedVariables false
open Go.RowKit
attribute [local irreducible] Ear.Pl.wpQ Ear.Pa.wpQ Ear.Fe.wpQ Ear.Fa.wpQ sumP sumV digit putL setL by8 orL Ear.wd Ear.one Ear.clean riseFrom validN withinW newsL noteL bodyL bytesOf noteE bytesC
set_option maxRecDepth 100000 in
set_option maxHeartbeats 2000000 in
theorem kind_Q {kind from_ round : Int} {heard : BitVec 128} {N nc : Nat} {nb : Option Addr} (w : World) (h1 : kind = 1) :
    Calls Try.prog 19 #[.agg #[.int .i64 kind, .int .i64 from_, .int .i64 round, .int .u32 (Ear.wd heard 0), .int .u32 (Ear.wd heard 1), .int .u32 (Ear.wd heard 2), .int .u32 (Ear.wd heard 3), .slice nb N nc]] w fun e w' => e = .returned (.agg #[.int .i64 1, .int .i64 from_, .int .i64 round, .int .u32 0, .int .u32 0, .int .u32 0, .int .u32 0, .slice nb N nc]) ∧ Below w.heap.size w w' := by
  subst h1
  go_enter Try.func19, Try.ntmps19
  go_wp2
  refine Ear.bp_world (Ear.Sh w.heap.size w [(w.heap.size + 1, _, _)]) (.cons (by (repeat' (first | (show Ear.Blk _ _ _ _; with_reducible assumption) | (with_reducible exact Ear.Blk.new _ _ _) | (with_reducible refine Ear.Blk.new' ?_; (simp only [World.size_alloc, World.size_setCell, World.size_drew, setRow_size]; done)) | (with_reducible apply Ear.Blk.alloc) | (with_reducible apply Ear.Blk.drew) | (with_reducible apply Ear.Blk.setC) | (with_reducible apply Ear.Blk.setC' (e := by omega)) | (with_reducible apply Ear.Blk.rowC (e := by first | rfl | omega)) | (with_reducible apply Ear.Blk.otherRow) | (with_reducible apply Ear.Blk.other) | (show _ ≠ _; (try simp only [World.size_alloc, World.size_setCell, World.size_drew, setRow_size]); omega) | (show _ < _; (try simp only [World.size_alloc, World.size_setCell, World.size_drew, setRow_size]); omega)))) (.nil (by (repeat' (first | (with_reducible exact Below.refl _ _) | (with_reducible assumption) | (show Below 0 _ _; with_reducible refine Below.mono (by assumption) (Nat.zero_le _)) | (with_reducible refine below_setRow ?_ ?_ _) | (with_reducible refine Below.alloc ?_ ?_ _) | (with_reducible refine Below.drew ?_) | (with_reducible refine Below.setCell ?_ ?_ _) | (with_reducible refine Below.frame ?_ _) | (with_reducible exact Nat.le_refl _) | omega | (simp only [World.size_alloc, World.size_setCell, World.size_drew, setRow_size]; omega) | (simp; omega) | (simp; done)))))) ?_; (try clear hr_l); (try clear hr_c); (try clear hr_f); (try clear hr); (try clear hB hs); rintro w2 ⟨hr, hB⟩; replace hB : Below w.heap.size w w2 := hB; have hs := hB.size; (try simp only [List.set_cons_zero, List.set_cons_succ] at hr); have hr_l := hr.lt; have hr_c := hr.cell; have hr_f := hr.frozen
  refine bodyPost_ret (v := .agg #[.int .i64 1, .int .i64 from_, .int .i64 round, .int .u32 0, .int .u32 0, .int .u32 0, .int .u32 0, .slice nb N nc]) (by simp [results, Try.results19, go_sem, *]) rfl ⟨rfl, hB⟩

set_option maxRecDepth 100000 in
set_option maxHeartbeats 2000000 in
theorem Lay_Q {from_ round : Int} {N nc : Nat} {nb : Option Addr} (w : World) :
    Calls Try.prog 20 #[.agg #[.int .i64 1, .int .i64 from_, .int .i64 round, .int .u32 0, .int .u32 0, .int .u32 0, .int .u32 0, .slice nb N nc]] w fun e w' => e = .returned (.iface 55 (.agg #[.int .i64 from_, .int .i64 round, .slice nb N nc])) ∧ Below w.heap.size w w' := by
  go_enter Try.func20, Try.ntmps20
  go_wp2
  go_ret
  exact ⟨rfl, by (repeat' (first | (with_reducible exact Below.refl _ _) | (with_reducible assumption) | (show Below 0 _ _; with_reducible refine Below.mono (by assumption) (Nat.zero_le _)) | (with_reducible refine below_setRow ?_ ?_ _) | (with_reducible refine Below.alloc ?_ ?_ _) | (with_reducible refine Below.drew ?_) | (with_reducible refine Below.setCell ?_ ?_ _) | (with_reducible refine Below.frame ?_ _) | (with_reducible exact Nat.le_refl _) | omega | (simp only [World.size_alloc, World.size_setCell, World.size_drew, setRow_size]; omega) | (simp; omega) | (simp; done)))⟩
set_option maxRecDepth 100000 in
set_option maxHeartbeats 2000000 in
theorem kind_P {kind from_ round : Int} {heard : BitVec 128} {N nc : Nat} {nb : Option Addr} (w : World) (h1 : kind = 2) :
    Calls Try.prog 19 #[.agg #[.int .i64 kind, .int .i64 from_, .int .i64 round, .int .u32 (Ear.wd heard 0), .int .u32 (Ear.wd heard 1), .int .u32 (Ear.wd heard 2), .int .u32 (Ear.wd heard 3), .slice nb N nc]] w fun e w' => e = .returned (.agg #[.int .i64 2, .int .i64 from_, .int .i64 round, .int .u32 (Ear.wd heard 0), .int .u32 (Ear.wd heard 1), .int .u32 (Ear.wd heard 2), .int .u32 (Ear.wd heard 3), .slice nb N nc]) ∧ Below w.heap.size w w' := by
  subst h1
  go_enter Try.func19, Try.ntmps19
  go_wp2
  refine Ear.bp_world (Ear.Sh w.heap.size w [(w.heap.size + 1, _, _)]) (.cons (by (repeat' (first | (show Ear.Blk _ _ _ _; with_reducible assumption) | (with_reducible exact Ear.Blk.new _ _ _) | (with_reducible refine Ear.Blk.new' ?_; (simp only [World.size_alloc, World.size_setCell, World.size_drew, setRow_size]; done)) | (with_reducible apply Ear.Blk.alloc) | (with_reducible apply Ear.Blk.drew) | (with_reducible apply Ear.Blk.setC) | (with_reducible apply Ear.Blk.setC' (e := by omega)) | (with_reducible apply Ear.Blk.rowC (e := by first | rfl | omega)) | (with_reducible apply Ear.Blk.otherRow) | (with_reducible apply Ear.Blk.other) | (show _ ≠ _; (try simp only [World.size_alloc, World.size_setCell, World.size_drew, setRow_size]); omega) | (show _ < _; (try simp only [World.size_alloc, World.size_setCell, World.size_drew, setRow_size]); omega)))) (.nil (by (repeat' (first | (with_reducible exact Below.refl _ _) | (with_reducible assumption) | (show Below 0 _ _; with_reducible refine Below.mono (by assumption) (Nat.zero_le _)) | (with_reducible refine below_setRow ?_ ?_ _) | (with_reducible refine Below.alloc ?_ ?_ _) | (with_reducible refine Below.drew ?_) | (with_reducible refine Below.setCell ?_ ?_ _) | (with_reducible refine Below.frame ?_ _) | (with_reducible exact Nat.le_refl _) | omega | (simp only [World.size_alloc, World.size_setCell, World.size_drew, setRow_size]; omega) | (simp; omega) | (simp; done)))))) ?_; (try clear hr_l); (try clear hr_c); (try clear hr_f); (try clear hr); (try clear hB hs); rintro w2 ⟨hr, hB⟩; replace hB : Below w.heap.size w w2 := hB; have hs := hB.size; (try simp only [List.set_cons_zero, List.set_cons_succ] at hr); have hr_l := hr.lt; have hr_c := hr.cell; have hr_f := hr.frozen
  refine bodyPost_ret (v := .agg #[.int .i64 2, .int .i64 from_, .int .i64 round, .int .u32 (Ear.wd heard 0), .int .u32 (Ear.wd heard 1), .int .u32 (Ear.wd heard 2), .int .u32 (Ear.wd heard 3), .slice nb N nc]) (by simp [results, Try.results19, go_sem, *]) rfl ⟨rfl, hB⟩

set_option maxRecDepth 100000 in
set_option maxHeartbeats 2000000 in
theorem Lay_P {from_ round : Int} {heard : BitVec 128} {N nc : Nat} {nb : Option Addr} (w : World) :
    Calls Try.prog 20 #[.agg #[.int .i64 2, .int .i64 from_, .int .i64 round, .int .u32 (Ear.wd heard 0), .int .u32 (Ear.wd heard 1), .int .u32 (Ear.wd heard 2), .int .u32 (Ear.wd heard 3), .slice nb N nc]] w fun e w' => e = .returned (.iface 58 (.agg #[.int .i64 from_, .int .i64 round, .int .u32 (Ear.wd heard 0), .int .u32 (Ear.wd heard 1), .int .u32 (Ear.wd heard 2), .int .u32 (Ear.wd heard 3), .slice nb N nc])) ∧ Below w.heap.size w w' := by
  go_enter Try.func20, Try.ntmps20
  go_wp2
  go_ret
  exact ⟨rfl, by (repeat' (first | (with_reducible exact Below.refl _ _) | (with_reducible assumption) | (show Below 0 _ _; with_reducible refine Below.mono (by assumption) (Nat.zero_le _)) | (with_reducible refine below_setRow ?_ ?_ _) | (with_reducible refine Below.alloc ?_ ?_ _) | (with_reducible refine Below.drew ?_) | (with_reducible refine Below.setCell ?_ ?_ _) | (with_reducible refine Below.frame ?_ _) | (with_reducible exact Nat.le_refl _) | omega | (simp only [World.size_alloc, World.size_setCell, World.size_drew, setRow_size]; omega) | (simp; omega) | (simp; done)))⟩
set_option maxRecDepth 100000 in
set_option maxHeartbeats 2000000 in
theorem kind_U {kind from_ round : Int} {heard : BitVec 128} {N nc : Nat} {nb : Option Addr} (w : World) (h1 : kind ≠ 1) (h2 : kind ≠ 2) :
    Calls Try.prog 19 #[.agg #[.int .i64 kind, .int .i64 from_, .int .i64 round, .int .u32 (Ear.wd heard 0), .int .u32 (Ear.wd heard 1), .int .u32 (Ear.wd heard 2), .int .u32 (Ear.wd heard 3), .slice nb N nc]] w fun e w' => e = .returned (.agg #[.int .i64 3, .int .i64 from_, .int .i64 0, .int .u32 0, .int .u32 0, .int .u32 0, .int .u32 0, .slice nb N nc]) ∧ Below w.heap.size w w' := by
  have hw0 := Ear.wd_zero
  by_cases h3 : kind < 1
  rotate_left
  by_cases h4 : 3 < kind
  rotate_left
  obtain rfl : kind = 3 := by omega
  all_goals (
    go_enter Try.func19, Try.ntmps19
    go_wp2
    refine Ear.bp_world (Ear.Sh w.heap.size w [(w.heap.size + 1, _, _)]) (.cons (by (repeat' (first | (show Ear.Blk _ _ _ _; with_reducible assumption) | (with_reducible exact Ear.Blk.new _ _ _) | (with_reducible refine Ear.Blk.new' ?_; (simp only [World.size_alloc, World.size_setCell, World.size_drew, setRow_size]; done)) | (with_reducible apply Ear.Blk.alloc) | (with_reducible apply Ear.Blk.drew) | (with_reducible apply Ear.Blk.setC) | (with_reducible apply Ear.Blk.setC' (e := by omega)) | (with_reducible apply Ear.Blk.rowC (e := by first | rfl | omega)) | (with_reducible apply Ear.Blk.otherRow) | (with_reducible apply Ear.Blk.other) | (show _ ≠ _; (try simp only [World.size_alloc, World.size_setCell, World.size_drew, setRow_size]); omega) | (show _ < _; (try simp only [World.size_alloc, World.size_setCell, World.size_drew, setRow_size]); omega)))) (.nil (by (repeat' (first | (with_reducible exact Below.refl _ _) | (with_reducible assumption) | (show Below 0 _ _; with_reducible refine Below.mono (by assumption) (Nat.zero_le _)) | (with_reducible refine below_setRow ?_ ?_ _) | (with_reducible refine Below.alloc ?_ ?_ _) | (with_reducible refine Below.drew ?_) | (with_reducible refine Below.setCell ?_ ?_ _) | (with_reducible refine Below.frame ?_ _) | (with_reducible exact Nat.le_refl _) | omega | (simp only [World.size_alloc, World.size_setCell, World.size_drew, setRow_size]; omega) | (simp; omega) | (simp; done)))))) ?_; (try clear hr_l); (try clear hr_c); (try clear hr_f); (try clear hr); (try clear hB hs); rintro w2 ⟨hr, hB⟩; replace hB : Below w.heap.size w w2 := hB; have hs := hB.size; (try simp only [List.set_cons_zero, List.set_cons_succ] at hr); have hr_l := hr.lt; have hr_c := hr.cell; have hr_f := hr.frozen
    refine bodyPost_ret (v := .agg #[.int .i64 3, .int .i64 from_, .int .i64 0, .int .u32 0, .int .u32 0, .int .u32 0, .int .u32 0, .slice nb N nc]) (by simp [results, Try.results19, go_sem, *]) rfl ⟨rfl, hB⟩)

set_option maxRecDepth 100000 in
set_option maxHeartbeats 2000000 in
theorem Lay_U {from_ : Int} {N nc : Nat} {nb : Option Addr} (w : World) :
    Calls Try.prog 20 #[.agg #[.int .i64 3, .int .i64 from_, .int .i64 0, .int .u32 0, .int .u32 0, .int .u32 0, .int .u32 0, .slice nb N nc]] w fun e w' => e = .returned (.iface 61 (.agg #[.int .i64 from_, .slice nb N nc])) ∧ Below w.heap.size w w' := by
  go_enter Try.func20, Try.ntmps20
  go_wp2
  go_ret
  exact ⟨rfl, by (repeat' (first | (with_reducible exact Below.refl _ _) | (with_reducible assumption) | (show Below 0 _ _; with_reducible refine Below.mono (by assumption) (Nat.zero_le _)) | (with_reducible refine below_setRow ?_ ?_ _) | (with_reducible refine Below.alloc ?_ ?_ _) | (with_reducible refine Below.drew ?_) | (with_reducible refine Below.setCell ?_ ?_ _) | (with_reducible refine Below.frame ?_ _) | (with_reducible exact Nat.le_refl _) | omega | (simp only [World.size_alloc, World.size_setCell, World.size_drew, setRow_size]; omega) | (simp; omega) | (simp; done)))⟩
theorem bytesOf_len (n kind from_ round : Int) (heard : BitVec 128) (L : List Nt) (hn : L.length ≤ 5000) (h : noteE n kind from_ round heard L = 0) : (bytesOf n kind from_ round heard L).length ≤ 140737488355328 := by
  have h2 := (note_okE h).2.1
  unfold bytesOf bodyL foreL
  rw [List.length_append, List.length_append, List.length_append, putL_len, putL_len, newsL_len]
  have : (lineL n kind from_ round heard).length ≤ 5 + 5 + 14 := by
    unfold lineL headL
    split
    · simp
    · split <;> simp [putL_len, setL_len] <;> omega
  omega
theorem bytesC_len {n kind from_ round : Int} {heard : BitVec 128} {L : List Nt} {bs : List Int} (hn : L.length ≤ 5000) (h : bytesC n kind from_ round heard L = bs) : bs.length ≤ 140737488355328 := by
  subst h
  by_cases h0 : noteE n kind from_ round heard L = 0
  · rw [bytesC_good h0]; exact bytesOf_len n kind from_ round heard L hn h0
  · rw [bytesC_bad h0]; simp
end Go.Proofs.Ytklfkfnckdeifaa
