/-
  The document's bytes of a note.
-/
import Derived.Test.YtklfkfnckdeifaaWireH
import Derived.Deep.DeepCutAuto
namespace Go.Proofs.Ytklfkfnckdeifaa
set_option linter.unusedSimpArgs false
set_option linter.unusedVariables false
open Go.RowKit
attribute [local irreducible] Ear.Pl.wpQ Ear.Pa.wpQ Ear.Fe.wpQ Ear.Fa.wpQ sumP sumV digit putL setL by8 orL Ear.wd Ear.one Ear.clean riseFrom validN withinW newsL noteL bodyL
theorem RWithinW_eq {v : BitVec 128} {n : Int} {b : Bool} (h : withinW v n = b) (w : World) : Calls Try.prog 38 #[.agg #[.int .u32 (Ear.wd (v) 0), .int .u32 (Ear.wd (v) 1), .int .u32 (Ear.wd (v) 2), .int .u32 (Ear.wd (v) 3)], .int .i64 n] w fun e w' => e = .returned (.bool b) ∧ Below w.heap.size w w' := by
  subst h; unfold withinW; exact RWithin_calls v n w
/-- What a note cannot be of: its kind tells which of its parts count. -/
def noteE (n kind from_ round : Int) (heard : BitVec 128) (L : List Nt) : Int := formE n from_ (if kind = 3 then 1 else round) (if kind = 2 then heard else 0#128) L
theorem within0n {n : Int} (h1 : 1 ≤ n) (h2 : n ≤ 100) : withinW 0#128 n = true := by
  unfold withinW; simp
set_option maxRecDepth 100000 in
set_option maxHeartbeats 4000000 in
theorem RB_arg {n kind from_ round : Int} {heard : BitVec 128} {N nc : Nat} {nb : Option Addr} {w : World} (h : n < 1 ∨ 100 < n) :
    Calls Try.prog 21 #[.agg #[.int .i64 kind, .int .i64 from_, .int .i64 round, .int .u32 (Ear.wd heard 0), .int .u32 (Ear.wd heard 1), .int .u32 (Ear.wd heard 2), .int .u32 (Ear.wd heard 3), .slice nb N nc], .int .i64 n] w fun e w' => e = .returned (.tuple #[.slice none 0 0, .int .i64 1]) ∧ Below w.heap.size w w' := by
  have h' : n < 1 ∨ (1 ≤ n ∧ 100 < n) := by omega
  clear h
  rcases h' with h | ⟨h, h'⟩
  all_goals
    go_enter Try.func21, Try.ntmps21
    go_wp2
    go_ret2
    exact ⟨rfl, by (repeat' (first | (with_reducible exact Below.refl _ _) | (with_reducible assumption) | (show Below 0 _ _; with_reducible refine Below.mono (by assumption) (Nat.zero_le _)) | (with_reducible refine below_setRow ?_ ?_ _) | (with_reducible refine Below.alloc ?_ ?_ _) | (with_reducible refine Below.drew ?_) | (with_reducible refine Below.setCell ?_ ?_ _) | (with_reducible refine Below.frame ?_ _) | (with_reducible exact Nat.le_refl _) | omega | (simp only [World.size_alloc, World.size_setCell, World.size_drew, setRow_size]; omega) | (simp; omega) | (simp; done)))⟩
set_option maxRecDepth 100000 in
set_option maxHeartbeats 4000000 in
theorem RB_from {n kind from_ round : Int} {heard : BitVec 128} {N nc : Nat} {nb : Option Addr} {w : World} (h1 : 1 ≤ n) (h2 : n ≤ 100) (h : from_ < 0 ∨ n ≤ from_) :
    Calls Try.prog 21 #[.agg #[.int .i64 kind, .int .i64 from_, .int .i64 round, .int .u32 (Ear.wd heard 0), .int .u32 (Ear.wd heard 1), .int .u32 (Ear.wd heard 2), .int .u32 (Ear.wd heard 3), .slice nb N nc], .int .i64 n] w fun e w' => e = .returned (.tuple #[.slice none 0 0, .int .i64 72]) ∧ Below w.heap.size w w' := by
  have h' : from_ < 0 ∨ (0 ≤ from_ ∧ n ≤ from_) := by omega
  clear h
  rcases h' with h | ⟨h, h'⟩
  all_goals
    go_enter Try.func21, Try.ntmps21
    go_wp2
    go_ret2
    exact ⟨rfl, by (repeat' (first | (with_reducible exact Below.refl _ _) | (with_reducible assumption) | (show Below 0 _ _; with_reducible refine Below.mono (by assumption) (Nat.zero_le _)) | (with_reducible refine below_setRow ?_ ?_ _) | (with_reducible refine Below.alloc ?_ ?_ _) | (with_reducible refine Below.drew ?_) | (with_reducible refine Below.setCell ?_ ?_ _) | (with_reducible refine Below.frame ?_ _) | (with_reducible exact Nat.le_refl _) | omega | (simp only [World.size_alloc, World.size_setCell, World.size_drew, setRow_size]; omega) | (simp; omega) | (simp; done)))⟩
set_option maxRecDepth 100000 in
set_option maxHeartbeats 4000000 in
theorem RB_round {n kind from_ round : Int} {heard : BitVec 128} {N nc : Nat} {nb : Option Addr} {w : World} (h1 : 1 ≤ n) (h2 : n ≤ 100) (h3 : 0 ≤ from_) (h4 : from_ < n) (hk : kind = 1 ∨ kind = 2) (h : round < 1 ∨ 1099511627775 < round) :
    Calls Try.prog 21 #[.agg #[.int .i64 kind, .int .i64 from_, .int .i64 round, .int .u32 (Ear.wd heard 0), .int .u32 (Ear.wd heard 1), .int .u32 (Ear.wd heard 2), .int .u32 (Ear.wd heard 3), .slice nb N nc], .int .i64 n] w fun e w' => e = .returned (.tuple #[.slice none 0 0, .int .i64 73]) ∧ Below w.heap.size w w' := by
  have h' : round < 1 ∨ (1 ≤ round ∧ 1099511627775 < round) := by omega
  clear h
  rcases hk with rfl | rfl <;> rcases h' with h | ⟨h, h'⟩
  all_goals
    go_enter Try.func21, Try.ntmps21
    go_wp2
    go_ret2
    exact ⟨rfl, by (repeat' (first | (with_reducible exact Below.refl _ _) | (with_reducible assumption) | (show Below 0 _ _; with_reducible refine Below.mono (by assumption) (Nat.zero_le _)) | (with_reducible refine below_setRow ?_ ?_ _) | (with_reducible refine Below.alloc ?_ ?_ _) | (with_reducible refine Below.drew ?_) | (with_reducible refine Below.setCell ?_ ?_ _) | (with_reducible refine Below.frame ?_ _) | (with_reducible exact Nat.le_refl _) | omega | (simp only [World.size_alloc, World.size_setCell, World.size_drew, setRow_size]; omega) | (simp; omega) | (simp; done)))⟩
set_option maxRecDepth 100000 in
set_option maxHeartbeats 4000000 in
theorem RB_heard {n from_ round : Int} {heard : BitVec 128} {N nc : Nat} {nb : Option Addr} {w : World} (h1 : 1 ≤ n) (h2 : n ≤ 100) (h3 : 0 ≤ from_) (h4 : from_ < n) (h5 : 1 ≤ round) (h6 : round ≤ 1099511627775) (h : withinW heard n = false) :
    Calls Try.prog 21 #[.agg #[.int .i64 2, .int .i64 from_, .int .i64 round, .int .u32 (Ear.wd heard 0), .int .u32 (Ear.wd heard 1), .int .u32 (Ear.wd heard 2), .int .u32 (Ear.wd heard 3), .slice nb N nc], .int .i64 n] w fun e w' => e = .returned (.tuple #[.slice none 0 0, .int .i64 74]) ∧ Below w.heap.size w w' := by
  have HW := Lib.hid h
  clear h
  go_enter Try.func21, Try.ntmps21
  go_wp2_with (go_at_call 38; (with_reducible refine Calls.mono (RWithinW_eq HW.out _) ?_); rintro e w1 ⟨rfl, hb1⟩; have hB' : Below w.heap.size w w1 := Below.trans (by (repeat' (first | (with_reducible exact Below.refl _ _) | (with_reducible assumption) | (show Below 0 _ _; with_reducible refine Below.mono (by assumption) (Nat.zero_le _)) | (with_reducible refine below_setRow ?_ ?_ _) | (with_reducible refine Below.alloc ?_ ?_ _) | (with_reducible refine Below.drew ?_) | (with_reducible refine Below.setCell ?_ ?_ _) | (with_reducible refine Below.frame ?_ _) | (with_reducible exact Nat.le_refl _) | omega | (simp only [World.size_alloc, World.size_setCell, World.size_drew, setRow_size]; omega) | (simp; omega) | (simp; done)))) (hb1.mono (by (try simp only [World.size_alloc, World.size_setCell, World.size_drew, setRow_size]); omega)); have hf' := (show Ear.Blk w1 (w.heap.size) _ _ from by (repeat' (first | (show Ear.Blk _ _ _ _; with_reducible assumption) | (with_reducible exact Ear.Blk.new _ _ _) | (with_reducible refine Ear.Blk.new' ?_; (simp only [World.size_alloc, World.size_setCell, World.size_drew, setRow_size]; done)) | (with_reducible apply Ear.Blk.alloc) | (with_reducible apply Ear.Blk.drew) | (with_reducible apply Ear.Blk.setC) | (with_reducible apply Ear.Blk.setC' (e := by omega)) | (with_reducible apply Ear.Blk.rowC (e := by first | rfl | omega)) | (with_reducible apply Ear.Blk.otherRow) | (with_reducible apply Ear.Blk.other) | (with_reducible apply Ear.Blk.below (hb := hb1)) | (show _ ≠ _; (try simp only [World.size_alloc, World.size_setCell, World.size_drew, setRow_size]); omega) | (show _ < _; (try simp only [World.size_alloc, World.size_setCell, World.size_drew, setRow_size]); omega)))); clear hb1; (try clear hf_l); (try clear hf_c); (try clear hf_f); (try clear hf); have hf := hf'; clear hf'; (try simp only [List.set_cons_zero, List.set_cons_succ] at hf); have hf_l := hf.lt; have hf_c := hf.cell; have hf_f := hf.frozen; (try clear hB hs); have hB := hB'; clear hB'; have hs := hB.size)
  go_ret2
  exact ⟨rfl, hB⟩
set_option maxRecDepth 100000 in
set_option maxHeartbeats 4000000 in
theorem RB_news {n kind from_ round : Int} {heard : BitVec 128} {L : List Nt} {nc : Nat} {nb : Option Addr} {w : World} (h1 : 1 ≤ n) (h2 : n ≤ 100) (h3 : 0 ≤ from_) (h4 : from_ < n) (hk : kind = 1 ∨ kind = 2 ∨ kind = 3) (hr : kind = 3 ∨ (1 ≤ round ∧ round ≤ 1099511627775)) (h : kind = 2 → withinW heard n = true) (hri : riseFrom n (-1) L = false) (hn : L.length ≤ 5000) (hl : LiesV (ntsV L) nb w) :
    Calls Try.prog 21 #[.agg #[.int .i64 kind, .int .i64 from_, .int .i64 round, .int .u32 (Ear.wd heard 0), .int .u32 (Ear.wd heard 1), .int .u32 (Ear.wd heard 2), .int .u32 (Ear.wd heard 3), .slice nb L.length nc], .int .i64 n] w fun e w' => e = .returned (.tuple #[.slice none 0 0, .int .i64 75]) ∧ Below w.heap.size w w' := by
  have HR := Lib.hid hri
  have HL := Lib.hid hl
  have HH := Lib.hid h
  clear hri hl h
  rcases hk with rfl | rfl | rfl
  · obtain ⟨r1, r2⟩ : 1 ≤ round ∧ round ≤ 1099511627775 := by omega
    clear hr HH
    go_enter Try.func21, Try.ntmps21
    go_wp2_with (go_at_call 39; (with_reducible refine Calls.mono (RRising_eq HR.out _ _ _ hn (LiesV.below HL.out (by (repeat' (first | (with_reducible exact Below.refl _ _) | (with_reducible assumption) | (show Below 0 _ _; with_reducible refine Below.mono (by assumption) (Nat.zero_le _)) | (with_reducible refine below_setRow ?_ ?_ _) | (with_reducible refine Below.alloc ?_ ?_ _) | (with_reducible refine Below.drew ?_) | (with_reducible refine Below.setCell ?_ ?_ _) | (with_reducible refine Below.frame ?_ _) | (with_reducible exact Nat.le_refl _) | omega | (simp only [World.size_alloc, World.size_setCell, World.size_drew, setRow_size]; omega) | (simp; omega) | (simp; done)))))) ?_); rintro e w2 ⟨rfl, hb2⟩; have hB' : Below w.heap.size w w2 := Below.trans (by (repeat' (first | (with_reducible exact Below.refl _ _) | (with_reducible assumption) | (show Below 0 _ _; with_reducible refine Below.mono (by assumption) (Nat.zero_le _)) | (with_reducible refine below_setRow ?_ ?_ _) | (with_reducible refine Below.alloc ?_ ?_ _) | (with_reducible refine Below.drew ?_) | (with_reducible refine Below.setCell ?_ ?_ _) | (with_reducible refine Below.frame ?_ _) | (with_reducible exact Nat.le_refl _) | omega | (simp only [World.size_alloc, World.size_setCell, World.size_drew, setRow_size]; omega) | (simp; omega) | (simp; done)))) (hb2.mono (by (try simp only [World.size_alloc, World.size_setCell, World.size_drew, setRow_size]); omega)); have hf' := (show Ear.Blk w2 (w.heap.size) _ _ from by (repeat' (first | (show Ear.Blk _ _ _ _; with_reducible assumption) | (with_reducible exact Ear.Blk.new _ _ _) | (with_reducible refine Ear.Blk.new' ?_; (simp only [World.size_alloc, World.size_setCell, World.size_drew, setRow_size]; done)) | (with_reducible apply Ear.Blk.alloc) | (with_reducible apply Ear.Blk.drew) | (with_reducible apply Ear.Blk.setC) | (with_reducible apply Ear.Blk.setC' (e := by omega)) | (with_reducible apply Ear.Blk.rowC (e := by first | rfl | omega)) | (with_reducible apply Ear.Blk.otherRow) | (with_reducible apply Ear.Blk.other) | (with_reducible apply Ear.Blk.below (hb := hb2)) | (show _ ≠ _; (try simp only [World.size_alloc, World.size_setCell, World.size_drew, setRow_size]); omega) | (show _ < _; (try simp only [World.size_alloc, World.size_setCell, World.size_drew, setRow_size]); omega)))); clear hb2; (try clear hf_l); (try clear hf_c); (try clear hf_f); (try clear hf); have hf := hf'; clear hf'; (try simp only [List.set_cons_zero, List.set_cons_succ] at hf); have hf_l := hf.lt; have hf_c := hf.cell; have hf_f := hf.frozen; (try clear hB hs); have hB := hB'; clear hB'; have hs := hB.size)
    go_ret2
    exact ⟨rfl, hB⟩
  · obtain ⟨r1, r2⟩ : 1 ≤ round ∧ round ≤ 1099511627775 := by omega
    have HW := Lib.hid (HH.out rfl)
    clear hr HH
    go_enter Try.func21, Try.ntmps21
    go_wp2_with (first
      | (go_at_call 38; (with_reducible refine Calls.mono (RWithinW_eq HW.out _) ?_); rintro e w1 ⟨rfl, hb1⟩; have hB' : Below w.heap.size w w1 := Below.trans (by (repeat' (first | (with_reducible exact Below.refl _ _) | (with_reducible assumption) | (show Below 0 _ _; with_reducible refine Below.mono (by assumption) (Nat.zero_le _)) | (with_reducible refine below_setRow ?_ ?_ _) | (with_reducible refine Below.alloc ?_ ?_ _) | (with_reducible refine Below.drew ?_) | (with_reducible refine Below.setCell ?_ ?_ _) | (with_reducible refine Below.frame ?_ _) | (with_reducible exact Nat.le_refl _) | omega | (simp only [World.size_alloc, World.size_setCell, World.size_drew, setRow_size]; omega) | (simp; omega) | (simp; done)))) (hb1.mono (by (try simp only [World.size_alloc, World.size_setCell, World.size_drew, setRow_size]); omega)); have hf' := (show Ear.Blk w1 (w.heap.size) _ _ from by (repeat' (first | (show Ear.Blk _ _ _ _; with_reducible assumption) | (with_reducible exact Ear.Blk.new _ _ _) | (with_reducible refine Ear.Blk.new' ?_; (simp only [World.size_alloc, World.size_setCell, World.size_drew, setRow_size]; done)) | (with_reducible apply Ear.Blk.alloc) | (with_reducible apply Ear.Blk.drew) | (with_reducible apply Ear.Blk.setC) | (with_reducible apply Ear.Blk.setC' (e := by omega)) | (with_reducible apply Ear.Blk.rowC (e := by first | rfl | omega)) | (with_reducible apply Ear.Blk.otherRow) | (with_reducible apply Ear.Blk.other) | (with_reducible apply Ear.Blk.below (hb := hb1)) | (show _ ≠ _; (try simp only [World.size_alloc, World.size_setCell, World.size_drew, setRow_size]); omega) | (show _ < _; (try simp only [World.size_alloc, World.size_setCell, World.size_drew, setRow_size]); omega)))); clear hb1; (try clear hf_l); (try clear hf_c); (try clear hf_f); (try clear hf); have hf := hf'; clear hf'; (try simp only [List.set_cons_zero, List.set_cons_succ] at hf); have hf_l := hf.lt; have hf_c := hf.cell; have hf_f := hf.frozen; (try clear hB hs); have hB := hB'; clear hB'; have hs := hB.size)
      | (go_at_call 39; (with_reducible refine Calls.mono (RRising_eq HR.out _ _ _ hn (LiesV.below HL.out hB)) ?_); rintro e w2 ⟨rfl, hb2⟩; have hB' : Below w.heap.size w w2 := Below.trans (by (repeat' (first | (with_reducible exact Below.refl _ _) | (with_reducible assumption) | (show Below 0 _ _; with_reducible refine Below.mono (by assumption) (Nat.zero_le _)) | (with_reducible refine below_setRow ?_ ?_ _) | (with_reducible refine Below.alloc ?_ ?_ _) | (with_reducible refine Below.drew ?_) | (with_reducible refine Below.setCell ?_ ?_ _) | (with_reducible refine Below.frame ?_ _) | (with_reducible exact Nat.le_refl _) | omega | (simp only [World.size_alloc, World.size_setCell, World.size_drew, setRow_size]; omega) | (simp; omega) | (simp; done)))) (hb2.mono (by (try simp only [World.size_alloc, World.size_setCell, World.size_drew, setRow_size]); omega)); have hf' := (show Ear.Blk w2 (w.heap.size) _ _ from by (repeat' (first | (show Ear.Blk _ _ _ _; with_reducible assumption) | (with_reducible exact Ear.Blk.new _ _ _) | (with_reducible refine Ear.Blk.new' ?_; (simp only [World.size_alloc, World.size_setCell, World.size_drew, setRow_size]; done)) | (with_reducible apply Ear.Blk.alloc) | (with_reducible apply Ear.Blk.drew) | (with_reducible apply Ear.Blk.setC) | (with_reducible apply Ear.Blk.setC' (e := by omega)) | (with_reducible apply Ear.Blk.rowC (e := by first | rfl | omega)) | (with_reducible apply Ear.Blk.otherRow) | (with_reducible apply Ear.Blk.other) | (with_reducible apply Ear.Blk.below (hb := hb2)) | (show _ ≠ _; (try simp only [World.size_alloc, World.size_setCell, World.size_drew, setRow_size]); omega) | (show _ < _; (try simp only [World.size_alloc, World.size_setCell, World.size_drew, setRow_size]); omega)))); clear hb2; (try clear hf_l); (try clear hf_c); (try clear hf_f); (try clear hf); have hf := hf'; clear hf'; (try simp only [List.set_cons_zero, List.set_cons_succ] at hf); have hf_l := hf.lt; have hf_c := hf.cell; have hf_f := hf.frozen; (try clear hB hs); have hB := hB'; clear hB'; have hs := hB.size))
    go_ret2
    exact ⟨rfl, hB⟩
  · clear hr HH
    go_enter Try.func21, Try.ntmps21
    go_wp2_with (go_at_call 39; (with_reducible refine Calls.mono (RRising_eq HR.out _ _ _ hn (LiesV.below HL.out (by (repeat' (first | (with_reducible exact Below.refl _ _) | (with_reducible assumption) | (show Below 0 _ _; with_reducible refine Below.mono (by assumption) (Nat.zero_le _)) | (with_reducible refine below_setRow ?_ ?_ _) | (with_reducible refine Below.alloc ?_ ?_ _) | (with_reducible refine Below.drew ?_) | (with_reducible refine Below.setCell ?_ ?_ _) | (with_reducible refine Below.frame ?_ _) | (with_reducible exact Nat.le_refl _) | omega | (simp only [World.size_alloc, World.size_setCell, World.size_drew, setRow_size]; omega) | (simp; omega) | (simp; done)))))) ?_); rintro e w2 ⟨rfl, hb2⟩; have hB' : Below w.heap.size w w2 := Below.trans (by (repeat' (first | (with_reducible exact Below.refl _ _) | (with_reducible assumption) | (show Below 0 _ _; with_reducible refine Below.mono (by assumption) (Nat.zero_le _)) | (with_reducible refine below_setRow ?_ ?_ _) | (with_reducible refine Below.alloc ?_ ?_ _) | (with_reducible refine Below.drew ?_) | (with_reducible refine Below.setCell ?_ ?_ _) | (with_reducible refine Below.frame ?_ _) | (with_reducible exact Nat.le_refl _) | omega | (simp only [World.size_alloc, World.size_setCell, World.size_drew, setRow_size]; omega) | (simp; omega) | (simp; done)))) (hb2.mono (by (try simp only [World.size_alloc, World.size_setCell, World.size_drew, setRow_size]); omega)); have hf' := (show Ear.Blk w2 (w.heap.size) _ _ from by (repeat' (first | (show Ear.Blk _ _ _ _; with_reducible assumption) | (with_reducible exact Ear.Blk.new _ _ _) | (with_reducible refine Ear.Blk.new' ?_; (simp only [World.size_alloc, World.size_setCell, World.size_drew, setRow_size]; done)) | (with_reducible apply Ear.Blk.alloc) | (with_reducible apply Ear.Blk.drew) | (with_reducible apply Ear.Blk.setC) | (with_reducible apply Ear.Blk.setC' (e := by omega)) | (with_reducible apply Ear.Blk.rowC (e := by first | rfl | omega)) | (with_reducible apply Ear.Blk.otherRow) | (with_reducible apply Ear.Blk.other) | (with_reducible apply Ear.Blk.below (hb := hb2)) | (show _ ≠ _; (try simp only [World.size_alloc, World.size_setCell, World.size_drew, setRow_size]); omega) | (show _ < _; (try simp only [World.size_alloc, World.size_setCell, World.size_drew, setRow_size]); omega)))); clear hb2; (try clear hf_l); (try clear hf_c); (try clear hf_f); (try clear hf); have hf := hf'; clear hf'; (try simp only [List.set_cons_zero, List.set_cons_succ] at hf); have hf_l := hf.lt; have hf_c := hf.cell; have hf_f := hf.frozen; (try clear hB hs); have hB := hB'; clear hB'; have hs := hB.size)
    go_ret2
    exact ⟨rfl, hB⟩
theorem RBytes_bad {n kind from_ round : Int} {heard : BitVec 128} {L : List Nt} {nc : Nat} {nb : Option Addr} {w : World} {c : Int} (hk : kind = 1 ∨ kind = 2 ∨ kind = 3) (hc : noteE n kind from_ round heard L = c) (h0 : c ≠ 0) (hn : L.length ≤ 5000) (hl : LiesV (ntsV L) nb w) :
    Calls Try.prog 21 #[.agg #[.int .i64 kind, .int .i64 from_, .int .i64 round, .int .u32 (Ear.wd heard 0), .int .u32 (Ear.wd heard 1), .int .u32 (Ear.wd heard 2), .int .u32 (Ear.wd heard 3), .slice nb L.length nc], .int .i64 n] w fun e w' => e = .returned (.tuple #[.slice none 0 0, .int .i64 c]) ∧ Below w.heap.size w w' := by
  unfold noteE formE at hc
  by_cases h1 : n < 1 ∨ 100 < n
  · rw [if_pos h1] at hc; subst hc; exact RB_arg h1
  · rw [if_neg h1] at hc
    by_cases h2 : from_ < 0 ∨ n ≤ from_
    · rw [if_pos h2] at hc; subst hc; exact RB_from (by omega) (by omega) h2
    · rw [if_neg h2] at hc
      by_cases h3 : (if kind = 3 then 1 else round) < 1 ∨ 1099511627775 < (if kind = 3 then 1 else round)
      · rw [if_pos h3] at hc; subst hc
        by_cases e3 : kind = 3
        · rw [if_pos e3] at h3; omega
        · rw [if_neg e3] at h3
          exact RB_round (by omega) (by omega) (by omega) (by omega) (by omega) h3
      · rw [if_neg h3] at hc
        have hr : kind = 3 ∨ (1 ≤ round ∧ round ≤ 1099511627775) := by
          by_cases e3 : kind = 3
          · exact .inl e3
          · rw [if_neg e3] at h3; right; omega
        cases h4 : withinW (if kind = 2 then heard else 0#128) n with
        | false =>
          rw [if_pos h4] at hc; subst hc
          by_cases e2 : kind = 2
          · rw [if_pos e2] at h4
            subst e2
            exact RB_heard (by omega) (by omega) (by omega) (by omega) (by omega) (by omega) h4
          · rw [if_neg e2, within0n (by omega) (by omega)] at h4; cases h4
        | true =>
          rw [if_neg (by rw [h4]; decide)] at hc
          cases h5 : riseFrom n (-1) L with
          | false =>
            rw [if_pos h5] at hc; subst hc
            exact RB_news (by omega) (by omega) (by omega) (by omega) hk hr (fun e2 => by rw [if_pos e2] at h4; exact h4) h5 hn hl
          | true => rw [if_neg (by rw [h5]; decide)] at hc; exact absurd hc.symm h0
end Go.Proofs.Ytklfkfnckdeifaa
