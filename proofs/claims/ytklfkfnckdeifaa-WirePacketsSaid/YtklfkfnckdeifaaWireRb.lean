/-
  The document's answer to Decode: read.
-/
import Derived.Test.YtklfkfnckdeifaaWireRa
import Derived.Test.YtklfkfnckdeifaaNtRef
namespace Go.Proofs.Ytklfkfnckdeifaa
set_option linter.unusedSimpArgs false
set_option linter.unusedVariables false
open Go.RowKit
attribute [local irreducible] Ear.Pl.wpQ Ear.Pa.wpQ Ear.Fe.wpQ Ear.Fa.wpQ Ear.wd withinW numK heardK sumV newsK ntK newsC heardC manyK decS decN decH decR atK bytesN low
theorem wraps (q : Nat) (h : q ≤ 700) : wrap64 ((q : Int) + 1) = (q : Int) + 1 ∧ wrap64 ((q : Int) + 2) = (q : Int) + 2 ∧ wrap64 ((q : Int) + 4) = (q : Int) + 4 ∧ wrap64 ((q : Int) + 5) = (q : Int) + 5 := by
  refine ⟨?_, ?_, ?_, ?_⟩ <;> (simp only [wrap64]; omega)
theorem own_store {w : World} {lo b e s n g : Nat} {v : Value} {xs : List Value} (h : w.ownsRow lo e s v n xs) (hg : g < lo) (hb : b ≤ lo) {o0 o1 o2 o3 o4 o5 o6 o7 : Nat} {v0 v1 v2 v3 v4 v5 v6 v7 : Value} : ((((((((w.setCell ⟨g, o0, none⟩ v0).setCell ⟨g, o1, none⟩ v1).setCell ⟨g, o2, none⟩ v2).setCell ⟨g, o3, none⟩ v3).setCell ⟨g, o4, none⟩ v4).setCell ⟨g, o5, none⟩ v5).setCell ⟨g, o6, none⟩ v6).setCell ⟨g, o7, none⟩ v7).ownsRow b e s v n xs :=
  owns_base (owns_set (owns_set (owns_set (owns_set (owns_set (owns_set (owns_set (owns_set h hg) hg) hg) hg) hg) hg) hg) hg) hb
/-- A note of the document's, as a value. -/
abbrev noteA (k f r : Int) (h : BitVec 128) (nb : Option Addr) (m nc : Nat) : Value := .agg #[.int .i64 k, .int .i64 f, .int .i64 r, .int .u32 (Ear.wd h 0), .int .u32 (Ear.wd h 1), .int .u32 (Ear.wd h 2), .int .u32 (Ear.wd h 3), .slice nb m nc]
abbrev cellsA (k f r : Int) (h : BitVec 128) (nb : Option Addr) (m nc : Nat) : List Value := [.int .i64 k, .int .i64 f, .int .i64 r, .int .u32 (Ear.wd h 0), .int .u32 (Ear.wd h 1), .int .u32 (Ear.wd h 2), .int .u32 (Ear.wd h 3), .slice nb m nc]
/-- What read answers, as long as the bytes are refused. -/
abbrev badP (w : World) (c : Int) (e : Ending) (w' : World) : Prop := ∃ k f r h nb m nc, e = .returned (.tuple #[noteA k f r h nb m nc, .int .i64 c]) ∧ Below w.heap.size w w'
/-- What read answers. -/
structure RdPost (l : List Int) (n c : Int) (w : World) (e : Ending) (w' : World) : Prop where
  ok : c = 0 → ∃ nb nc, e = .returned (.tuple #[noteA (l.getD 2 0) (l.getD 4 0) (roundD l) (heardD l n) nb (manyK l (atK l n)) nc, .int .i64 0]) ∧ w'.ownsRow w.heap.size 84 3 (.slice nb (manyK l (atK l n)) nc) (manyK l (atK l n)) (ntsV (newsD l n)) ∧ Below w.heap.size w w'
  bad : c ≠ 0 → badP w c e w'
set_option maxRecDepth 100000 in
set_option maxHeartbeats 16000000 in
theorem read_pre {w : World} {B o cap : Nat} {l : List Int} {n c : Int} (hl : LiesV (bytesV l) (some ⟨B, o, none⟩) w) (hb : byteOk l) (h1 : 1 ≤ n) (h2 : n ≤ 100) (h5 : l.length ≤ 1024) (hcap : l.length ≤ cap) (hc : decC l n = c) (hx : ¬ (5 ≤ l.length ∧ l.getD 0 0 = 101 ∧ l.getD 1 0 = 115 ∧ (1 ≤ l.getD 2 0 ∧ l.getD 2 0 ≤ 3) ∧ l.getD 3 0 = n ∧ l.getD 4 0 < n)) :
    Calls Try.prog 44 #[.slice (some ⟨B, o, none⟩) l.length cap, .int .i64 n] w (RdPost l n c w) := by
  unfold decC at hc
  have HB := Lib.hid hb
  have HL := Lib.hid hl
  have hw0 := Ear.wd_zero
  obtain ⟨x0, hx0⟩ : ∃ x, l.getD 0 0 = x := ⟨_, rfl⟩
  obtain ⟨x1, hx1⟩ : ∃ x, l.getD 1 0 = x := ⟨_, rfl⟩
  obtain ⟨x2, hx2⟩ : ∃ x, l.getD 2 0 = x := ⟨_, rfl⟩
  obtain ⟨x3, hx3⟩ : ∃ x, l.getD 3 0 = x := ⟨_, rfl⟩
  obtain ⟨x4, hx4⟩ : ∃ x, l.getD 4 0 = x := ⟨_, rfl⟩
  rw [hx0, hx1, hx2, hx3, hx4] at hc
  simp only [hx0, hx1, hx2, hx3, hx4] at hx
  have HX0 := Lib.hid hx0
  have HX1 := Lib.hid hx1
  have HX2 := Lib.hid hx2
  have HX3 := Lib.hid hx3
  have HX4 := Lib.hid hx4
  have HD := Lib.hid hc
  clear hl hb hc hx0 hx1 hx2 hx3 hx4
  go_enter Try.func44, Try.ntmps44
  by_cases s2 : l.length < 2
  · have e1 : decide ((l.length : Int) < 2) = true := decide_eq_true (by omega)
    have e2 : decide (l.length < 2) = true := decide_eq_true (by omega)
    have HCC := Lib.hid (show c = 76 from by have := HD.out; rw [if_pos s2] at this; exact this.symm)
    go_wp2
    refine Ear.bp_world (fun W => Ear.Blk W w.heap.size 33 (cellsA 0 0 0 0#128 none 0 0) ∧ Below w.heap.size w W) ⟨Ear.Blk.renew (by (repeat' (first | (show Ear.Blk _ _ _ _; with_reducible assumption) | (with_reducible exact Ear.Blk.new _ _ _) | (with_reducible refine Ear.Blk.new' ?_; (simp only [World.size_alloc, World.size_setCell, World.size_drew, setRow_size]; done)) | (with_reducible apply Ear.Blk.alloc) | (with_reducible apply Ear.Blk.drew) | (with_reducible apply Ear.Blk.setC) | (with_reducible apply Ear.Blk.setC' (e := by omega)) | (with_reducible apply Ear.Blk.rowC (e := by first | rfl | omega)) | (with_reducible apply Ear.Blk.otherRow) | (with_reducible apply Ear.Blk.other) | (show _ ≠ _; (try simp only [World.size_alloc, World.size_setCell, World.size_drew, setRow_size]); omega) | (show _ < _; (try simp only [World.size_alloc, World.size_setCell, World.size_drew, setRow_size]); omega)))) (by first | (simp only [cellsA, List.set_cons_zero, List.set_cons_succ, hw0]; done) | rfl), by (repeat' (first | (with_reducible exact Below.refl _ _) | (with_reducible assumption) | (show Below 0 _ _; with_reducible refine Below.mono (by assumption) (Nat.zero_le _)) | (with_reducible refine below_setRow ?_ ?_ _) | (with_reducible refine Below.alloc ?_ ?_ _) | (with_reducible refine Below.drew ?_) | (with_reducible refine Below.setCell ?_ ?_ _) | (with_reducible refine Below.frame ?_ _) | (with_reducible exact Nat.le_refl _) | omega | (simp only [World.size_alloc, World.size_setCell, World.size_drew, setRow_size]; omega) | (simp; omega) | (simp; done)))⟩ ?_
    rintro W ⟨hr', hB'⟩
    have hr_c := hr'.cell
    refine bodyPost_ret (v := .tuple #[noteA 0 0 0 0#128 none 0 0, .int .i64 76]) (by simp [results, Try.results44, go_sem, hr_c]) rfl ?_
    exact ⟨fun h => by have := HCC.out; omega, fun _ => by rw [HCC.out]; exact ⟨_, _, _, _, _, _, _, rfl, hB'⟩⟩
  replace HD := Lib.hid (by have := HD.out; rw [if_neg s2] at this; exact this)
  have e_s2 : decide ((l.length : Int) < 2) = false := decide_eq_false (by omega)
  have f_s2 : decide (l.length < 2) = false := decide_eq_false (by omega)
  obtain ⟨a0, -, -⟩ := read_at HL.out HB.out 0 (by omega)
  obtain ⟨a1, -, -⟩ := read_at HL.out HB.out 1 (by omega)
  rw [HX0.out, Nat.add_zero] at a0
  rw [HX1.out] at a1
  have hBl : B < w.heap.size := World.block_lt_of_cell? _ _ a0
  by_cases sM : x0 = 101 ∧ x1 = 115
  rotate_left
  · by_cases sm : x0 = 101
    · subst sm
      have b1 : (x1 == 115) = false := beq_eq_false_iff_ne.2 (fun h => sM ⟨rfl, h⟩)
      have b2 : (x1 != 115) = true := bne_iff_ne.2 (fun h => sM ⟨rfl, h⟩)
      have HCC := Lib.hid (show c = 70 from by have := HD.out; rw [if_neg sM] at this; exact this.symm)
      go_wp2
      refine Ear.bp_world (fun W => Ear.Blk W w.heap.size 33 (cellsA 0 0 0 0#128 none 0 0) ∧ Below w.heap.size w W) ⟨Ear.Blk.renew (by (repeat' (first | (show Ear.Blk _ _ _ _; with_reducible assumption) | (with_reducible exact Ear.Blk.new _ _ _) | (with_reducible refine Ear.Blk.new' ?_; (simp only [World.size_alloc, World.size_setCell, World.size_drew, setRow_size]; done)) | (with_reducible apply Ear.Blk.alloc) | (with_reducible apply Ear.Blk.drew) | (with_reducible apply Ear.Blk.setC) | (with_reducible apply Ear.Blk.setC' (e := by omega)) | (with_reducible apply Ear.Blk.rowC (e := by first | rfl | omega)) | (with_reducible apply Ear.Blk.otherRow) | (with_reducible apply Ear.Blk.other) | (show _ ≠ _; (try simp only [World.size_alloc, World.size_setCell, World.size_drew, setRow_size]); omega) | (show _ < _; (try simp only [World.size_alloc, World.size_setCell, World.size_drew, setRow_size]); omega)))) (by first | (simp only [cellsA, List.set_cons_zero, List.set_cons_succ, hw0]; done) | rfl), by (repeat' (first | (with_reducible exact Below.refl _ _) | (with_reducible assumption) | (show Below 0 _ _; with_reducible refine Below.mono (by assumption) (Nat.zero_le _)) | (with_reducible refine below_setRow ?_ ?_ _) | (with_reducible refine Below.alloc ?_ ?_ _) | (with_reducible refine Below.drew ?_) | (with_reducible refine Below.setCell ?_ ?_ _) | (with_reducible refine Below.frame ?_ _) | (with_reducible exact Nat.le_refl _) | omega | (simp only [World.size_alloc, World.size_setCell, World.size_drew, setRow_size]; omega) | (simp; omega) | (simp; done)))⟩ ?_
      rintro W ⟨hr', hB'⟩
      have hr_c := hr'.cell
      refine bodyPost_ret (v := .tuple #[noteA 0 0 0 0#128 none 0 0, .int .i64 70]) (by simp [results, Try.results44, go_sem, hr_c]) rfl ?_
      exact ⟨fun h => by have := HCC.out; omega, fun _ => by rw [HCC.out]; exact ⟨_, _, _, _, _, _, _, rfl, hB'⟩⟩
    · have b1 : (x0 == 101) = false := beq_eq_false_iff_ne.2 sm
      have b2 : (x0 != 101) = true := bne_iff_ne.2 sm
      have HCC := Lib.hid (show c = 70 from by have := HD.out; rw [if_neg sM] at this; exact this.symm)
      go_wp2
      refine Ear.bp_world (fun W => Ear.Blk W w.heap.size 33 (cellsA 0 0 0 0#128 none 0 0) ∧ Below w.heap.size w W) ⟨Ear.Blk.renew (by (repeat' (first | (show Ear.Blk _ _ _ _; with_reducible assumption) | (with_reducible exact Ear.Blk.new _ _ _) | (with_reducible refine Ear.Blk.new' ?_; (simp only [World.size_alloc, World.size_setCell, World.size_drew, setRow_size]; done)) | (with_reducible apply Ear.Blk.alloc) | (with_reducible apply Ear.Blk.drew) | (with_reducible apply Ear.Blk.setC) | (with_reducible apply Ear.Blk.setC' (e := by omega)) | (with_reducible apply Ear.Blk.rowC (e := by first | rfl | omega)) | (with_reducible apply Ear.Blk.otherRow) | (with_reducible apply Ear.Blk.other) | (show _ ≠ _; (try simp only [World.size_alloc, World.size_setCell, World.size_drew, setRow_size]); omega) | (show _ < _; (try simp only [World.size_alloc, World.size_setCell, World.size_drew, setRow_size]); omega)))) (by first | (simp only [cellsA, List.set_cons_zero, List.set_cons_succ, hw0]; done) | rfl), by (repeat' (first | (with_reducible exact Below.refl _ _) | (with_reducible assumption) | (show Below 0 _ _; with_reducible refine Below.mono (by assumption) (Nat.zero_le _)) | (with_reducible refine below_setRow ?_ ?_ _) | (with_reducible refine Below.alloc ?_ ?_ _) | (with_reducible refine Below.drew ?_) | (with_reducible refine Below.setCell ?_ ?_ _) | (with_reducible refine Below.frame ?_ _) | (with_reducible exact Nat.le_refl _) | omega | (simp only [World.size_alloc, World.size_setCell, World.size_drew, setRow_size]; omega) | (simp; omega) | (simp; done)))⟩ ?_
      rintro W ⟨hr', hB'⟩
      have hr_c := hr'.cell
      refine bodyPost_ret (v := .tuple #[noteA 0 0 0 0#128 none 0 0, .int .i64 70]) (by simp [results, Try.results44, go_sem, hr_c]) rfl ?_
      exact ⟨fun h => by have := HCC.out; omega, fun _ => by rw [HCC.out]; exact ⟨_, _, _, _, _, _, _, rfl, hB'⟩⟩
  replace HD := Lib.hid (by have := HD.out; rw [if_pos sM] at this; exact this)
  obtain ⟨rfl, rfl⟩ := sM
  by_cases s3 : l.length < 3
  · have e1 : decide ((l.length : Int) < 3) = true := decide_eq_true (by omega)
    have e2 : decide (l.length < 3) = true := decide_eq_true (by omega)
    have HCC := Lib.hid (show c = 76 from by have := HD.out; rw [if_pos s3] at this; exact this.symm)
    go_wp2
    refine Ear.bp_world (fun W => Ear.Blk W w.heap.size 33 (cellsA 0 0 0 0#128 none 0 0) ∧ Below w.heap.size w W) ⟨Ear.Blk.renew (by (repeat' (first | (show Ear.Blk _ _ _ _; with_reducible assumption) | (with_reducible exact Ear.Blk.new _ _ _) | (with_reducible refine Ear.Blk.new' ?_; (simp only [World.size_alloc, World.size_setCell, World.size_drew, setRow_size]; done)) | (with_reducible apply Ear.Blk.alloc) | (with_reducible apply Ear.Blk.drew) | (with_reducible apply Ear.Blk.setC) | (with_reducible apply Ear.Blk.setC' (e := by omega)) | (with_reducible apply Ear.Blk.rowC (e := by first | rfl | omega)) | (with_reducible apply Ear.Blk.otherRow) | (with_reducible apply Ear.Blk.other) | (show _ ≠ _; (try simp only [World.size_alloc, World.size_setCell, World.size_drew, setRow_size]); omega) | (show _ < _; (try simp only [World.size_alloc, World.size_setCell, World.size_drew, setRow_size]); omega)))) (by first | (simp only [cellsA, List.set_cons_zero, List.set_cons_succ, hw0]; done) | rfl), by (repeat' (first | (with_reducible exact Below.refl _ _) | (with_reducible assumption) | (show Below 0 _ _; with_reducible refine Below.mono (by assumption) (Nat.zero_le _)) | (with_reducible refine below_setRow ?_ ?_ _) | (with_reducible refine Below.alloc ?_ ?_ _) | (with_reducible refine Below.drew ?_) | (with_reducible refine Below.setCell ?_ ?_ _) | (with_reducible refine Below.frame ?_ _) | (with_reducible exact Nat.le_refl _) | omega | (simp only [World.size_alloc, World.size_setCell, World.size_drew, setRow_size]; omega) | (simp; omega) | (simp; done)))⟩ ?_
    rintro W ⟨hr', hB'⟩
    have hr_c := hr'.cell
    refine bodyPost_ret (v := .tuple #[noteA 0 0 0 0#128 none 0 0, .int .i64 76]) (by simp [results, Try.results44, go_sem, hr_c]) rfl ?_
    exact ⟨fun h => by have := HCC.out; omega, fun _ => by rw [HCC.out]; exact ⟨_, _, _, _, _, _, _, rfl, hB'⟩⟩
  replace HD := Lib.hid (by have := HD.out; rw [if_neg s3] at this; exact this)
  have e_s3 : decide ((l.length : Int) < 3) = false := decide_eq_false (by omega)
  have f_s3 : decide (l.length < 3) = false := decide_eq_false (by omega)
  obtain ⟨a2, y0, y1⟩ := read_at HL.out HB.out 2 (by omega)
  rw [HX2.out] at a2 y0 y1
  by_cases sK : 1 ≤ x2 ∧ x2 ≤ 3
  rotate_left
  · by_cases sk : 1 ≤ x2
    · have d1 : decide (x2 < 1) = false := decide_eq_false (by omega)
      have d2 : decide (3 < x2) = true := decide_eq_true (by omega)
      have HCC := Lib.hid (show c = 71 from by have := HD.out; rw [if_neg sK] at this; exact this.symm)
      go_wp2
      refine Ear.bp_world (fun W => Ear.Blk W w.heap.size 33 (cellsA x2 0 0 0#128 none 0 0) ∧ Below w.heap.size w W) ⟨Ear.Blk.renew (by (repeat' (first | (show Ear.Blk _ _ _ _; with_reducible assumption) | (with_reducible exact Ear.Blk.new _ _ _) | (with_reducible refine Ear.Blk.new' ?_; (simp only [World.size_alloc, World.size_setCell, World.size_drew, setRow_size]; done)) | (with_reducible apply Ear.Blk.alloc) | (with_reducible apply Ear.Blk.drew) | (with_reducible apply Ear.Blk.setC) | (with_reducible apply Ear.Blk.setC' (e := by omega)) | (with_reducible apply Ear.Blk.rowC (e := by first | rfl | omega)) | (with_reducible apply Ear.Blk.otherRow) | (with_reducible apply Ear.Blk.other) | (show _ ≠ _; (try simp only [World.size_alloc, World.size_setCell, World.size_drew, setRow_size]); omega) | (show _ < _; (try simp only [World.size_alloc, World.size_setCell, World.size_drew, setRow_size]); omega)))) (by first | (simp only [cellsA, List.set_cons_zero, List.set_cons_succ, hw0]; done) | rfl), by (repeat' (first | (with_reducible exact Below.refl _ _) | (with_reducible assumption) | (show Below 0 _ _; with_reducible refine Below.mono (by assumption) (Nat.zero_le _)) | (with_reducible refine below_setRow ?_ ?_ _) | (with_reducible refine Below.alloc ?_ ?_ _) | (with_reducible refine Below.drew ?_) | (with_reducible refine Below.setCell ?_ ?_ _) | (with_reducible refine Below.frame ?_ _) | (with_reducible exact Nat.le_refl _) | omega | (simp only [World.size_alloc, World.size_setCell, World.size_drew, setRow_size]; omega) | (simp; omega) | (simp; done)))⟩ ?_
      rintro W ⟨hr', hB'⟩
      have hr_c := hr'.cell
      refine bodyPost_ret (v := .tuple #[noteA x2 0 0 0#128 none 0 0, .int .i64 71]) (by simp [results, Try.results44, go_sem, hr_c]) rfl ?_
      exact ⟨fun h => by have := HCC.out; omega, fun _ => by rw [HCC.out]; exact ⟨_, _, _, _, _, _, _, rfl, hB'⟩⟩
    · have d1 : decide (x2 < 1) = true := decide_eq_true (by omega)
      have HCC := Lib.hid (show c = 71 from by have := HD.out; rw [if_neg sK] at this; exact this.symm)
      go_wp2
      refine Ear.bp_world (fun W => Ear.Blk W w.heap.size 33 (cellsA x2 0 0 0#128 none 0 0) ∧ Below w.heap.size w W) ⟨Ear.Blk.renew (by (repeat' (first | (show Ear.Blk _ _ _ _; with_reducible assumption) | (with_reducible exact Ear.Blk.new _ _ _) | (with_reducible refine Ear.Blk.new' ?_; (simp only [World.size_alloc, World.size_setCell, World.size_drew, setRow_size]; done)) | (with_reducible apply Ear.Blk.alloc) | (with_reducible apply Ear.Blk.drew) | (with_reducible apply Ear.Blk.setC) | (with_reducible apply Ear.Blk.setC' (e := by omega)) | (with_reducible apply Ear.Blk.rowC (e := by first | rfl | omega)) | (with_reducible apply Ear.Blk.otherRow) | (with_reducible apply Ear.Blk.other) | (show _ ≠ _; (try simp only [World.size_alloc, World.size_setCell, World.size_drew, setRow_size]); omega) | (show _ < _; (try simp only [World.size_alloc, World.size_setCell, World.size_drew, setRow_size]); omega)))) (by first | (simp only [cellsA, List.set_cons_zero, List.set_cons_succ, hw0]; done) | rfl), by (repeat' (first | (with_reducible exact Below.refl _ _) | (with_reducible assumption) | (show Below 0 _ _; with_reducible refine Below.mono (by assumption) (Nat.zero_le _)) | (with_reducible refine below_setRow ?_ ?_ _) | (with_reducible refine Below.alloc ?_ ?_ _) | (with_reducible refine Below.drew ?_) | (with_reducible refine Below.setCell ?_ ?_ _) | (with_reducible refine Below.frame ?_ _) | (with_reducible exact Nat.le_refl _) | omega | (simp only [World.size_alloc, World.size_setCell, World.size_drew, setRow_size]; omega) | (simp; omega) | (simp; done)))⟩ ?_
      rintro W ⟨hr', hB'⟩
      have hr_c := hr'.cell
      refine bodyPost_ret (v := .tuple #[noteA x2 0 0 0#128 none 0 0, .int .i64 71]) (by simp [results, Try.results44, go_sem, hr_c]) rfl ?_
      exact ⟨fun h => by have := HCC.out; omega, fun _ => by rw [HCC.out]; exact ⟨_, _, _, _, _, _, _, rfl, hB'⟩⟩
  replace HD := Lib.hid (by have := HD.out; rw [if_pos sK] at this; exact this)
  obtain ⟨sK1, sK2⟩ := sK
  have d1 : decide (x2 < 1) = false := decide_eq_false (by omega)
  have d2 : decide (3 < x2) = false := decide_eq_false (by omega)
  by_cases s4 : l.length < 4
  · have e1 : decide ((l.length : Int) < 4) = true := decide_eq_true (by omega)
    have e2 : decide (l.length < 4) = true := decide_eq_true (by omega)
    have HCC := Lib.hid (show c = 76 from by have := HD.out; rw [if_pos s4] at this; exact this.symm)
    go_wp2
    refine Ear.bp_world (fun W => Ear.Blk W w.heap.size 33 (cellsA x2 0 0 0#128 none 0 0) ∧ Below w.heap.size w W) ⟨Ear.Blk.renew (by (repeat' (first | (show Ear.Blk _ _ _ _; with_reducible assumption) | (with_reducible exact Ear.Blk.new _ _ _) | (with_reducible refine Ear.Blk.new' ?_; (simp only [World.size_alloc, World.size_setCell, World.size_drew, setRow_size]; done)) | (with_reducible apply Ear.Blk.alloc) | (with_reducible apply Ear.Blk.drew) | (with_reducible apply Ear.Blk.setC) | (with_reducible apply Ear.Blk.setC' (e := by omega)) | (with_reducible apply Ear.Blk.rowC (e := by first | rfl | omega)) | (with_reducible apply Ear.Blk.otherRow) | (with_reducible apply Ear.Blk.other) | (show _ ≠ _; (try simp only [World.size_alloc, World.size_setCell, World.size_drew, setRow_size]); omega) | (show _ < _; (try simp only [World.size_alloc, World.size_setCell, World.size_drew, setRow_size]); omega)))) (by first | (simp only [cellsA, List.set_cons_zero, List.set_cons_succ, hw0]; done) | rfl), by (repeat' (first | (with_reducible exact Below.refl _ _) | (with_reducible assumption) | (show Below 0 _ _; with_reducible refine Below.mono (by assumption) (Nat.zero_le _)) | (with_reducible refine below_setRow ?_ ?_ _) | (with_reducible refine Below.alloc ?_ ?_ _) | (with_reducible refine Below.drew ?_) | (with_reducible refine Below.setCell ?_ ?_ _) | (with_reducible refine Below.frame ?_ _) | (with_reducible exact Nat.le_refl _) | omega | (simp only [World.size_alloc, World.size_setCell, World.size_drew, setRow_size]; omega) | (simp; omega) | (simp; done)))⟩ ?_
    rintro W ⟨hr', hB'⟩
    have hr_c := hr'.cell
    refine bodyPost_ret (v := .tuple #[noteA x2 0 0 0#128 none 0 0, .int .i64 76]) (by simp [results, Try.results44, go_sem, hr_c]) rfl ?_
    exact ⟨fun h => by have := HCC.out; omega, fun _ => by rw [HCC.out]; exact ⟨_, _, _, _, _, _, _, rfl, hB'⟩⟩
  replace HD := Lib.hid (by have := HD.out; rw [if_neg s4] at this; exact this)
  have e_s4 : decide ((l.length : Int) < 4) = false := decide_eq_false (by omega)
  have f_s4 : decide (l.length < 4) = false := decide_eq_false (by omega)
  obtain ⟨a3, v0, v1⟩ := read_at HL.out HB.out 3 (by omega)
  rw [HX3.out] at a3 v0 v1
  by_cases sN : x3 = n
  rotate_left
  · have HCC := Lib.hid (show c = 102 from by have := HD.out; rw [if_neg sN] at this; exact this.symm)
    have b3 : (x3 == n) = false := beq_eq_false_iff_ne.2 sN
    have b4 : (x3 != n) = true := bne_iff_ne.2 sN
    go_wp2
    refine Ear.bp_world (fun W => Ear.Blk W w.heap.size 33 (cellsA x2 0 0 0#128 none 0 0) ∧ Below w.heap.size w W) ⟨Ear.Blk.renew (by (repeat' (first | (show Ear.Blk _ _ _ _; with_reducible assumption) | (with_reducible exact Ear.Blk.new _ _ _) | (with_reducible refine Ear.Blk.new' ?_; (simp only [World.size_alloc, World.size_setCell, World.size_drew, setRow_size]; done)) | (with_reducible apply Ear.Blk.alloc) | (with_reducible apply Ear.Blk.drew) | (with_reducible apply Ear.Blk.setC) | (with_reducible apply Ear.Blk.setC' (e := by omega)) | (with_reducible apply Ear.Blk.rowC (e := by first | rfl | omega)) | (with_reducible apply Ear.Blk.otherRow) | (with_reducible apply Ear.Blk.other) | (show _ ≠ _; (try simp only [World.size_alloc, World.size_setCell, World.size_drew, setRow_size]); omega) | (show _ < _; (try simp only [World.size_alloc, World.size_setCell, World.size_drew, setRow_size]); omega)))) (by first | (simp only [cellsA, List.set_cons_zero, List.set_cons_succ, hw0]; done) | rfl), by (repeat' (first | (with_reducible exact Below.refl _ _) | (with_reducible assumption) | (show Below 0 _ _; with_reducible refine Below.mono (by assumption) (Nat.zero_le _)) | (with_reducible refine below_setRow ?_ ?_ _) | (with_reducible refine Below.alloc ?_ ?_ _) | (with_reducible refine Below.drew ?_) | (with_reducible refine Below.setCell ?_ ?_ _) | (with_reducible refine Below.frame ?_ _) | (with_reducible exact Nat.le_refl _) | omega | (simp only [World.size_alloc, World.size_setCell, World.size_drew, setRow_size]; omega) | (simp; omega) | (simp; done)))⟩ ?_
    rintro W ⟨hr', hB'⟩
    have hr_c := hr'.cell
    refine bodyPost_ret (v := .tuple #[noteA x2 0 0 0#128 none 0 0, .int .i64 102]) (by simp [results, Try.results44, go_sem, hr_c]) rfl ?_
    exact ⟨fun h => by have := HCC.out; omega, fun _ => by rw [HCC.out]; exact ⟨_, _, _, _, _, _, _, rfl, hB'⟩⟩
  replace HD := Lib.hid (by have := HD.out; rw [if_pos sN] at this; exact this)
  subst sN
  have b3 : (x3 == x3) = true := beq_self_eq_true _
  by_cases s5 : l.length < 5
  · have e1 : decide ((l.length : Int) < 5) = true := decide_eq_true (by omega)
    have e2 : decide (l.length < 5) = true := decide_eq_true (by omega)
    have HCC := Lib.hid (show c = 76 from by have := HD.out; rw [if_pos s5] at this; exact this.symm)
    go_wp2
    refine Ear.bp_world (fun W => Ear.Blk W w.heap.size 33 (cellsA x2 0 0 0#128 none 0 0) ∧ Below w.heap.size w W) ⟨Ear.Blk.renew (by (repeat' (first | (show Ear.Blk _ _ _ _; with_reducible assumption) | (with_reducible exact Ear.Blk.new _ _ _) | (with_reducible refine Ear.Blk.new' ?_; (simp only [World.size_alloc, World.size_setCell, World.size_drew, setRow_size]; done)) | (with_reducible apply Ear.Blk.alloc) | (with_reducible apply Ear.Blk.drew) | (with_reducible apply Ear.Blk.setC) | (with_reducible apply Ear.Blk.setC' (e := by omega)) | (with_reducible apply Ear.Blk.rowC (e := by first | rfl | omega)) | (with_reducible apply Ear.Blk.otherRow) | (with_reducible apply Ear.Blk.other) | (show _ ≠ _; (try simp only [World.size_alloc, World.size_setCell, World.size_drew, setRow_size]); omega) | (show _ < _; (try simp only [World.size_alloc, World.size_setCell, World.size_drew, setRow_size]); omega)))) (by first | (simp only [cellsA, List.set_cons_zero, List.set_cons_succ, hw0]; done) | rfl), by (repeat' (first | (with_reducible exact Below.refl _ _) | (with_reducible assumption) | (show Below 0 _ _; with_reducible refine Below.mono (by assumption) (Nat.zero_le _)) | (with_reducible refine below_setRow ?_ ?_ _) | (with_reducible refine Below.alloc ?_ ?_ _) | (with_reducible refine Below.drew ?_) | (with_reducible refine Below.setCell ?_ ?_ _) | (with_reducible refine Below.frame ?_ _) | (with_reducible exact Nat.le_refl _) | omega | (simp only [World.size_alloc, World.size_setCell, World.size_drew, setRow_size]; omega) | (simp; omega) | (simp; done)))⟩ ?_
    rintro W ⟨hr', hB'⟩
    have hr_c := hr'.cell
    refine bodyPost_ret (v := .tuple #[noteA x2 0 0 0#128 none 0 0, .int .i64 76]) (by simp [results, Try.results44, go_sem, hr_c]) rfl ?_
    exact ⟨fun h => by have := HCC.out; omega, fun _ => by rw [HCC.out]; exact ⟨_, _, _, _, _, _, _, rfl, hB'⟩⟩
  replace HD := Lib.hid (by have := HD.out; rw [if_neg s5] at this; exact this)
  have e_s5 : decide ((l.length : Int) < 5) = false := decide_eq_false (by omega)
  have f_s5 : decide (l.length < 5) = false := decide_eq_false (by omega)
  obtain ⟨a4, z0, z1⟩ := read_at HL.out HB.out 4 (by omega)
  rw [HX4.out] at a4 z0 z1
  by_cases sF : x4 < x3
  rotate_left
  · have HCC := Lib.hid (show c = 72 from by have := HD.out; rw [if_neg sF] at this; exact this.symm)
    have d4 : decide (x3 ≤ x4) = true := decide_eq_true (by omega)
    go_wp2
    refine Ear.bp_world (fun W => Ear.Blk W w.heap.size 33 (cellsA x2 x4 0 0#128 none 0 0) ∧ Below w.heap.size w W) ⟨Ear.Blk.renew (by (repeat' (first | (show Ear.Blk _ _ _ _; with_reducible assumption) | (with_reducible exact Ear.Blk.new _ _ _) | (with_reducible refine Ear.Blk.new' ?_; (simp only [World.size_alloc, World.size_setCell, World.size_drew, setRow_size]; done)) | (with_reducible apply Ear.Blk.alloc) | (with_reducible apply Ear.Blk.drew) | (with_reducible apply Ear.Blk.setC) | (with_reducible apply Ear.Blk.setC' (e := by omega)) | (with_reducible apply Ear.Blk.rowC (e := by first | rfl | omega)) | (with_reducible apply Ear.Blk.otherRow) | (with_reducible apply Ear.Blk.other) | (show _ ≠ _; (try simp only [World.size_alloc, World.size_setCell, World.size_drew, setRow_size]); omega) | (show _ < _; (try simp only [World.size_alloc, World.size_setCell, World.size_drew, setRow_size]); omega)))) (by first | (simp only [cellsA, List.set_cons_zero, List.set_cons_succ, hw0]; done) | rfl), by (repeat' (first | (with_reducible exact Below.refl _ _) | (with_reducible assumption) | (show Below 0 _ _; with_reducible refine Below.mono (by assumption) (Nat.zero_le _)) | (with_reducible refine below_setRow ?_ ?_ _) | (with_reducible refine Below.alloc ?_ ?_ _) | (with_reducible refine Below.drew ?_) | (with_reducible refine Below.setCell ?_ ?_ _) | (with_reducible refine Below.frame ?_ _) | (with_reducible exact Nat.le_refl _) | omega | (simp only [World.size_alloc, World.size_setCell, World.size_drew, setRow_size]; omega) | (simp; omega) | (simp; done)))⟩ ?_
    rintro W ⟨hr', hB'⟩
    have hr_c := hr'.cell
    refine bodyPost_ret (v := .tuple #[noteA x2 x4 0 0#128 none 0 0, .int .i64 72]) (by simp [results, Try.results44, go_sem, hr_c]) rfl ?_
    exact ⟨fun h => by have := HCC.out; omega, fun _ => by rw [HCC.out]; exact ⟨_, _, _, _, _, _, _, rfl, hB'⟩⟩
  replace HD := Lib.hid (by have := HD.out; rw [if_pos sF] at this; exact this)
  have d4 : decide (x3 ≤ x4) = false := decide_eq_false (by omega)
  exact absurd ⟨by omega, rfl, rfl, ⟨sK1, sK2⟩, rfl, sF⟩ hx
end Go.Proofs.Ytklfkfnckdeifaa
