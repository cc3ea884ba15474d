/-
  The document's answer to Decode: read of a note of kind 1.
-/
import Derived.Test.YtklfkfnckdeifaaWireRb
namespace Go.Proofs.Ytklfkfnckdeifaa
set_option linter.unusedSimpArgs false
set_option linter.unusedVariables false
open Go.RowKit
attribute [local irreducible] Ear.Pl.wpQ Ear.Pa.wpQ Ear.Fe.wpQ Ear.Fa.wpQ Ear.wd withinW numK heardK sumV newsK ntK newsC heardC manyK decS decN decH decR atK bytesN low
set_option maxRecDepth 100000 in
set_option maxHeartbeats 16000000 in
theorem read_1 {w : World} {B o cap : Nat} {l : List Int} {n c : Int} (hl : LiesV (bytesV l) (some ⟨B, o, none⟩) w) (hb : byteOk l) (h1 : 1 ≤ n) (h2 : n ≤ 100) (h5 : l.length ≤ 1024) (hcap : l.length ≤ cap) (hc : decC l n = c) (hx : 5 ≤ l.length ∧ l.getD 0 0 = 101 ∧ l.getD 1 0 = 115 ∧ l.getD 3 0 = n ∧ l.getD 4 0 < n) (hk : l.getD 2 0 = 1) :
    Calls Try.prog 44 #[.slice (some ⟨B, o, none⟩) l.length cap, .int .i64 n] w (RdPost l n c w) := by
  unfold decC at hc
  have HB := Lib.hid hb
  have HL := Lib.hid hl
  have hw0 := Ear.wd_zero
  obtain ⟨x0, hx0⟩ : ∃ x, l.getD 0 0 = x := ⟨_, rfl⟩
  obtain ⟨x1, hx1⟩ : ∃ x, l.getD 1 0 = x := ⟨_, rfl⟩
  obtain ⟨x2, hx2⟩ : ∃ x, l.getD 2 0 = x := ⟨_, rfl⟩
  obtain ⟨x3, hx3⟩ : ∃ x, l.getD 3 0 = x := ⟨_, rfl⟩
  obtain ⟨x4, hx4⟩ : ∃ x, l.getD 4 0 = x := ⟨_, rfl⟩
  rw [hx0, hx1, hx2, hx3, hx4] at hc
  simp only [hx0, hx1, hx2, hx3, hx4] at hx
  obtain ⟨hx5, hx⟩ := hx
  have hx : True ∧ x0 = 101 ∧ x1 = 115 ∧ x3 = n ∧ x4 < n := ⟨trivial, hx⟩
  obtain ⟨-, hx⟩ := hx
  have hx := (show 5 ≤ l.length ∧ x0 = 101 ∧ x1 = 115 ∧ x3 = n ∧ x4 < n from ⟨hx5, hx⟩)
  have hkk : x2 = 1 := hx2.symm.trans hk
  clear hk
  have HX0 := Lib.hid hx0
  have HX1 := Lib.hid hx1
  have HX2 := Lib.hid hx2
  have HX3 := Lib.hid hx3
  have HX4 := Lib.hid hx4
  have HD := Lib.hid hc
  clear hl hb hc hx0 hx1 hx2 hx3 hx4
  go_enter Try.func44, Try.ntmps44
  have s2 : ¬ l.length < 2 := by omega
  replace HD := Lib.hid (by have := HD.out; rw [if_neg s2] at this; exact this)
  have e_s2 : decide ((l.length : Int) < 2) = false := decide_eq_false (by omega)
  have f_s2 : decide (l.length < 2) = false := decide_eq_false (by omega)
  obtain ⟨a0, -, -⟩ := read_at HL.out HB.out 0 (by omega)
  obtain ⟨a1, -, -⟩ := read_at HL.out HB.out 1 (by omega)
  rw [HX0.out, Nat.add_zero] at a0
  rw [HX1.out] at a1
  have hBl : B < w.heap.size := World.block_lt_of_cell? _ _ a0
  have sM : x0 = 101 ∧ x1 = 115 := ⟨hx.2.1, hx.2.2.1⟩
  replace HD := Lib.hid (by have := HD.out; rw [if_pos sM] at this; exact this)
  obtain ⟨rfl, rfl⟩ := sM
  have s3 : ¬ l.length < 3 := by omega
  replace HD := Lib.hid (by have := HD.out; rw [if_neg s3] at this; exact this)
  have e_s3 : decide ((l.length : Int) < 3) = false := decide_eq_false (by omega)
  have f_s3 : decide (l.length < 3) = false := decide_eq_false (by omega)
  obtain ⟨a2, -, -⟩ := read_at HL.out HB.out 2 (by omega)
  rw [HX2.out] at a2
  have sK : 1 ≤ x2 ∧ x2 ≤ 3 := by omega
  replace HD := Lib.hid (by have := HD.out; rw [if_pos sK] at this; exact this)
  have s4 : ¬ l.length < 4 := by omega
  replace HD := Lib.hid (by have := HD.out; rw [if_neg s4] at this; exact this)
  have e_s4 : decide ((l.length : Int) < 4) = false := decide_eq_false (by omega)
  have f_s4 : decide (l.length < 4) = false := decide_eq_false (by omega)
  obtain ⟨a3, v0, v1⟩ := read_at HL.out HB.out 3 (by omega)
  rw [HX3.out] at a3 v0 v1
  have sN : x3 = n := hx.2.2.2.1
  replace HD := Lib.hid (by have := HD.out; rw [if_pos sN] at this; exact this)
  subst sN
  have b3 : (x3 == x3) = true := beq_self_eq_true _
  have s5 : ¬ l.length < 5 := by omega
  replace HD := Lib.hid (by have := HD.out; rw [if_neg s5] at this; exact this)
  have e_s5 : decide ((l.length : Int) < 5) = false := decide_eq_false (by omega)
  have f_s5 : decide (l.length < 5) = false := decide_eq_false (by omega)
  obtain ⟨a4, z0, z1⟩ := read_at HL.out HB.out 4 (by omega)
  rw [HX4.out] at a4 z0 z1
  have sF : x4 < x3 := hx.2.2.2.2
  replace HD := Lib.hid (by have := HD.out; rw [if_pos sF] at this; exact this)
  have d4 : decide (x3 ≤ x4) = false := decide_eq_false (by omega)
  subst hkk
  replace HD := Lib.hid (by have := HD.out; rw [if_neg (by decide : ¬ (1 : Int) = 3)] at this; exact this)
  unfold decR at HD
  by_cases r1 : l.length < 10
  · have e1 : decide ((l.length : Int) < 10) = true := decide_eq_true (by omega)
    have e2 : decide (l.length < 10) = true := decide_eq_true (by omega)
    have HCC := Lib.hid (show c = 76 from by have := HD.out; rw [if_pos r1] at this; exact this.symm)
    go_wp2
    refine Ear.bp_world (fun W => Ear.Blk W w.heap.size 33 (cellsA 1 x4 0 0#128 none 0 0) ∧ Below w.heap.size w W) ⟨Ear.Blk.renew (by (repeat' (first | (show Ear.Blk _ _ _ _; with_reducible assumption) | (with_reducible exact Ear.Blk.new _ _ _) | (with_reducible refine Ear.Blk.new' ?_; (simp only [World.size_alloc, World.size_setCell, World.size_drew, setRow_size]; done)) | (with_reducible apply Ear.Blk.alloc) | (with_reducible apply Ear.Blk.drew) | (with_reducible apply Ear.Blk.setC) | (with_reducible apply Ear.Blk.setC' (e := by omega)) | (with_reducible apply Ear.Blk.rowC (e := by first | rfl | omega)) | (with_reducible apply Ear.Blk.otherRow) | (with_reducible apply Ear.Blk.other) | (show _ ≠ _; (try simp only [World.size_alloc, World.size_setCell, World.size_drew, setRow_size]); omega) | (show _ < _; (try simp only [World.size_alloc, World.size_setCell, World.size_drew, setRow_size]); omega)))) (by first | (simp only [cellsA, List.set_cons_zero, List.set_cons_succ, hw0]; done) | rfl), by (repeat' (first | (with_reducible exact Below.refl _ _) | (with_reducible assumption) | (show Below 0 _ _; with_reducible refine Below.mono (by assumption) (Nat.zero_le _)) | (with_reducible refine below_setRow ?_ ?_ _) | (with_reducible refine Below.alloc ?_ ?_ _) | (with_reducible refine Below.drew ?_) | (with_reducible refine Below.setCell ?_ ?_ _) | (with_reducible refine Below.frame ?_ _) | (with_reducible exact Nat.le_refl _) | omega | (simp only [World.size_alloc, World.size_setCell, World.size_drew, setRow_size]; omega) | (simp; omega) | (simp; done)))⟩ ?_
    rintro W ⟨hr', hB'⟩
    have hr_c := hr'.cell
    refine bodyPost_ret (v := .tuple #[noteA 1 x4 0 0#128 none 0 0, .int .i64 76]) (by simp [results, Try.results44, go_sem, hr_c]) rfl ?_
    exact ⟨fun h => by have := HCC.out; omega, fun _ => by rw [HCC.out]; exact ⟨_, _, _, _, _, _, _, rfl, hB'⟩⟩
  replace HD := Lib.hid (by have := HD.out; rw [if_neg r1] at this; exact this)
  have e_r1 : decide ((l.length : Int) < 10) = false := decide_eq_false (by omega)
  have f_r1 : decide (l.length < 10) = false := decide_eq_false (by omega)
  have hk10 : 5 + 5 ≤ l.length := by omega
  have hc10 : 10 ≤ cap := by omega
  obtain ⟨rd, hrd⟩ : ∃ rd, numK l 5 5 = rd := ⟨_, rfl⟩
  replace HD := Lib.hid (by have := HD.out; rw [hrd] at this; exact this)
  have HRD := Lib.hid hrd
  by_cases sR : 1 ≤ rd ∧ rd ≤ 1099511627775
  rotate_left
  · by_cases sr : 1 ≤ rd
    · have d5 : decide (rd < 1) = false := decide_eq_false (by omega)
      have d6 : decide (1099511627775 < rd) = true := decide_eq_true (by omega)
      have HCC := Lib.hid (show c = 73 from by have := HD.out; rw [if_neg sR] at this; exact this.symm)
      clear sR
      go_wp2_with (go_at_call 57; (with_reducible refine Calls.mono (value_calls (k := 5) (LiesV.below HL.out (by (repeat' (first | (with_reducible exact Below.refl _ _) | (with_reducible assumption) | (show Below 0 _ _; with_reducible refine Below.mono (by assumption) (Nat.zero_le _)) | (with_reducible refine below_setRow ?_ ?_ _) | (with_reducible refine Below.alloc ?_ ?_ _) | (with_reducible refine Below.drew ?_) | (with_reducible refine Below.setCell ?_ ?_ _) | (with_reducible refine Below.frame ?_ _) | (with_reducible exact Nat.le_refl _) | omega | (simp only [World.size_alloc, World.size_setCell, World.size_drew, setRow_size]; omega) | (simp; omega) | (simp; done))))) HB.out hk10 (by decide)) ?_); rintro e w1 ⟨rfl, hb1⟩; have hB' : Below w.heap.size w w1 := Below.trans (by (repeat' (first | (with_reducible exact Below.refl _ _) | (with_reducible assumption) | (show Below 0 _ _; with_reducible refine Below.mono (by assumption) (Nat.zero_le _)) | (with_reducible refine below_setRow ?_ ?_ _) | (with_reducible refine Below.alloc ?_ ?_ _) | (with_reducible refine Below.drew ?_) | (with_reducible refine Below.setCell ?_ ?_ _) | (with_reducible refine Below.frame ?_ _) | (with_reducible exact Nat.le_refl _) | omega | (simp only [World.size_alloc, World.size_setCell, World.size_drew, setRow_size]; omega) | (simp; omega) | (simp; done)))) (hb1.mono (by (try simp only [World.size_alloc, World.size_setCell, World.size_drew, setRow_size]); omega)); have hr' := (show Ear.Blk w1 (w.heap.size) _ _ from by (repeat' (first | (show Ear.Blk _ _ _ _; with_reducible assumption) | (with_reducible exact Ear.Blk.new _ _ _) | (with_reducible refine Ear.Blk.new' ?_; (simp only [World.size_alloc, World.size_setCell, World.size_drew, setRow_size]; done)) | (with_reducible apply Ear.Blk.alloc) | (with_reducible apply Ear.Blk.drew) | (with_reducible apply Ear.Blk.setC) | (with_reducible apply Ear.Blk.setC' (e := by omega)) | (with_reducible apply Ear.Blk.rowC (e := by first | rfl | omega)) | (with_reducible apply Ear.Blk.otherRow) | (with_reducible apply Ear.Blk.other) | (with_reducible apply Ear.Blk.below (hb := hb1)) | (show _ ≠ _; (try simp only [World.size_alloc, World.size_setCell, World.size_drew, setRow_size]); omega) | (show _ < _; (try simp only [World.size_alloc, World.size_setCell, World.size_drew, setRow_size]); omega)))); have hx_' := (show Ear.Blk w1 (w.heap.size + 1) _ _ from by (repeat' (first | (show Ear.Blk _ _ _ _; with_reducible assumption) | (with_reducible exact Ear.Blk.new _ _ _) | (with_reducible refine Ear.Blk.new' ?_; (simp only [World.size_alloc, World.size_setCell, World.size_drew, setRow_size]; done)) | (with_reducible apply Ear.Blk.alloc) | (with_reducible apply Ear.Blk.drew) | (with_reducible apply Ear.Blk.setC) | (with_reducible apply Ear.Blk.setC' (e := by omega)) | (with_reducible apply Ear.Blk.rowC (e := by first | rfl | omega)) | (with_reducible apply Ear.Blk.otherRow) | (with_reducible apply Ear.Blk.other) | (with_reducible apply Ear.Blk.below (hb := hb1)) | (show _ ≠ _; (try simp only [World.size_alloc, World.size_setCell, World.size_drew, setRow_size]); omega) | (show _ < _; (try simp only [World.size_alloc, World.size_setCell, World.size_drew, setRow_size]); omega)))); clear hb1; (try clear hr_l); (try clear hr_c); (try clear hr_f); (try clear hr); have hr := hr'; clear hr'; (try simp only [List.set_cons_zero, List.set_cons_succ] at hr); have hr_l := hr.lt; have hr_c := hr.cell; have hr_f := hr.frozen; (try clear hx__l); (try clear hx__c); (try clear hx__f); (try clear hx_); have hx_ := hx_'; clear hx_'; (try simp only [List.set_cons_zero, List.set_cons_succ] at hx_); have hx__l := hx_.lt; have hx__c := hx_.cell; have hx__f := hx_.frozen; (try clear hB hs); have hB := hB'; clear hB'; have hs := hB.size)
      refine Ear.bp_world (fun W => Ear.Blk W w.heap.size 33 (cellsA 1 x4 rd 0#128 none 0 0) ∧ Below w.heap.size w W) ⟨Ear.Blk.renew (by (repeat' (first | (show Ear.Blk _ _ _ _; with_reducible assumption) | (with_reducible exact Ear.Blk.new _ _ _) | (with_reducible refine Ear.Blk.new' ?_; (simp only [World.size_alloc, World.size_setCell, World.size_drew, setRow_size]; done)) | (with_reducible apply Ear.Blk.alloc) | (with_reducible apply Ear.Blk.drew) | (with_reducible apply Ear.Blk.setC) | (with_reducible apply Ear.Blk.setC' (e := by omega)) | (with_reducible apply Ear.Blk.rowC (e := by first | rfl | omega)) | (with_reducible apply Ear.Blk.otherRow) | (with_reducible apply Ear.Blk.other) | (show _ ≠ _; (try simp only [World.size_alloc, World.size_setCell, World.size_drew, setRow_size]); omega) | (show _ < _; (try simp only [World.size_alloc, World.size_setCell, World.size_drew, setRow_size]); omega)))) (by first | (simp only [cellsA, List.set_cons_zero, List.set_cons_succ, hw0]; done) | rfl), by (repeat' (first | (with_reducible exact Below.refl _ _) | (with_reducible assumption) | (show Below 0 _ _; with_reducible refine Below.mono (by assumption) (Nat.zero_le _)) | (with_reducible refine below_setRow ?_ ?_ _) | (with_reducible refine Below.alloc ?_ ?_ _) | (with_reducible refine Below.drew ?_) | (with_reducible refine Below.setCell ?_ ?_ _) | (with_reducible refine Below.frame ?_ _) | (with_reducible exact Nat.le_refl _) | omega | (simp only [World.size_alloc, World.size_setCell, World.size_drew, setRow_size]; omega) | (simp; omega) | (simp; done)))⟩ ?_
      rintro W ⟨hr', hB'⟩
      have hr_c := hr'.cell
      refine bodyPost_ret (v := .tuple #[noteA 1 x4 rd 0#128 none 0 0, .int .i64 73]) (by simp [results, Try.results44, go_sem, hr_c]) rfl ?_
      exact ⟨fun h => by have := HCC.out; omega, fun _ => by rw [HCC.out]; exact ⟨_, _, _, _, _, _, _, rfl, hB'⟩⟩
    · have d5 : decide (rd < 1) = true := decide_eq_true (by omega)
      have HCC := Lib.hid (show c = 73 from by have := HD.out; rw [if_neg sR] at this; exact this.symm)
      clear sR
      go_wp2_with (go_at_call 57; (with_reducible refine Calls.mono (value_calls (k := 5) (LiesV.below HL.out (by (repeat' (first | (with_reducible exact Below.refl _ _) | (with_reducible assumption) | (show Below 0 _ _; with_reducible refine Below.mono (by assumption) (Nat.zero_le _)) | (with_reducible refine below_setRow ?_ ?_ _) | (with_reducible refine Below.alloc ?_ ?_ _) | (with_reducible refine Below.drew ?_) | (with_reducible refine Below.setCell ?_ ?_ _) | (with_reducible refine Below.frame ?_ _) | (with_reducible exact Nat.le_refl _) | omega | (simp only [World.size_alloc, World.size_setCell, World.size_drew, setRow_size]; omega) | (simp; omega) | (simp; done))))) HB.out hk10 (by decide)) ?_); rintro e w1 ⟨rfl, hb1⟩; have hB' : Below w.heap.size w w1 := Below.trans (by (repeat' (first | (with_reducible exact Below.refl _ _) | (with_reducible assumption) | (show Below 0 _ _; with_reducible refine Below.mono (by assumption) (Nat.zero_le _)) | (with_reducible refine below_setRow ?_ ?_ _) | (with_reducible refine Below.alloc ?_ ?_ _) | (with_reducible refine Below.drew ?_) | (with_reducible refine Below.setCell ?_ ?_ _) | (with_reducible refine Below.frame ?_ _) | (with_reducible exact Nat.le_refl _) | omega | (simp only [World.size_alloc, World.size_setCell, World.size_drew, setRow_size]; omega) | (simp; omega) | (simp; done)))) (hb1.mono (by (try simp only [World.size_alloc, World.size_setCell, World.size_drew, setRow_size]); omega)); have hr' := (show Ear.Blk w1 (w.heap.size) _ _ from by (repeat' (first | (show Ear.Blk _ _ _ _; with_reducible assumption) | (with_reducible exact Ear.Blk.new _ _ _) | (with_reducible refine Ear.Blk.new' ?_; (simp only [World.size_alloc, World.size_setCell, World.size_drew, setRow_size]; done)) | (with_reducible apply Ear.Blk.alloc) | (with_reducible apply Ear.Blk.drew) | (with_reducible apply Ear.Blk.setC) | (with_reducible apply Ear.Blk.setC' (e := by omega)) | (with_reducible apply Ear.Blk.rowC (e := by first | rfl | omega)) | (with_reducible apply Ear.Blk.otherRow) | (with_reducible apply Ear.Blk.other) | (with_reducible apply Ear.Blk.below (hb := hb1)) | (show _ ≠ _; (try simp only [World.size_alloc, World.size_setCell, World.size_drew, setRow_size]); omega) | (show _ < _; (try simp only [World.size_alloc, World.size_setCell, World.size_drew, setRow_size]); omega)))); have hx_' := (show Ear.Blk w1 (w.heap.size + 1) _ _ from by (repeat' (first | (show Ear.Blk _ _ _ _; with_reducible assumption) | (with_reducible exact Ear.Blk.new _ _ _) | (with_reducible refine Ear.Blk.new' ?_; (simp only [World.size_alloc, World.size_setCell, World.size_drew, setRow_size]; done)) | (with_reducible apply Ear.Blk.alloc) | (with_reducible apply Ear.Blk.drew) | (with_reducible apply Ear.Blk.setC) | (with_reducible apply Ear.Blk.setC' (e := by omega)) | (with_reducible apply Ear.Blk.rowC (e := by first | rfl | omega)) | (with_reducible apply Ear.Blk.otherRow) | (with_reducible apply Ear.Blk.other) | (with_reducible apply Ear.Blk.below (hb := hb1)) | (show _ ≠ _; (try simp only [World.size_alloc, World.size_setCell, World.size_drew, setRow_size]); omega) | (show _ < _; (try simp only [World.size_alloc, World.size_setCell, World.size_drew, setRow_size]); omega)))); clear hb1; (try clear hr_l); (try clear hr_c); (try clear hr_f); (try clear hr); have hr := hr'; clear hr'; (try simp only [List.set_cons_zero, List.set_cons_succ] at hr); have hr_l := hr.lt; have hr_c := hr.cell; have hr_f := hr.frozen; (try clear hx__l); (try clear hx__c); (try clear hx__f); (try clear hx_); have hx_ := hx_'; clear hx_'; (try simp only [List.set_cons_zero, List.set_cons_succ] at hx_); have hx__l := hx_.lt; have hx__c := hx_.cell; have hx__f := hx_.frozen; (try clear hB hs); have hB := hB'; clear hB'; have hs := hB.size)
      refine Ear.bp_world (fun W => Ear.Blk W w.heap.size 33 (cellsA 1 x4 rd 0#128 none 0 0) ∧ Below w.heap.size w W) ⟨Ear.Blk.renew (by (repeat' (first | (show Ear.Blk _ _ _ _; with_reducible assumption) | (with_reducible exact Ear.Blk.new _ _ _) | (with_reducible refine Ear.Blk.new' ?_; (simp only [World.size_alloc, World.size_setCell, World.size_drew, setRow_size]; done)) | (with_reducible apply Ear.Blk.alloc) | (with_reducible apply Ear.Blk.drew) | (with_reducible apply Ear.Blk.setC) | (with_reducible apply Ear.Blk.setC' (e := by omega)) | (with_reducible apply Ear.Blk.rowC (e := by first | rfl | omega)) | (with_reducible apply Ear.Blk.otherRow) | (with_reducible apply Ear.Blk.other) | (show _ ≠ _; (try simp only [World.size_alloc, World.size_setCell, World.size_drew, setRow_size]); omega) | (show _ < _; (try simp only [World.size_alloc, World.size_setCell, World.size_drew, setRow_size]); omega)))) (by first | (simp only [cellsA, List.set_cons_zero, List.set_cons_succ, hw0]; done) | rfl), by (repeat' (first | (with_reducible exact Below.refl _ _) | (with_reducible assumption) | (show Below 0 _ _; with_reducible refine Below.mono (by assumption) (Nat.zero_le _)) | (with_reducible refine below_setRow ?_ ?_ _) | (with_reducible refine Below.alloc ?_ ?_ _) | (with_reducible refine Below.drew ?_) | (with_reducible refine Below.setCell ?_ ?_ _) | (with_reducible refine Below.frame ?_ _) | (with_reducible exact Nat.le_refl _) | omega | (simp only [World.size_alloc, World.size_setCell, World.size_drew, setRow_size]; omega) | (simp; omega) | (simp; done)))⟩ ?_
      rintro W ⟨hr', hB'⟩
      have hr_c := hr'.cell
      refine bodyPost_ret (v := .tuple #[noteA 1 x4 rd 0#128 none 0 0, .int .i64 73]) (by simp [results, Try.results44, go_sem, hr_c]) rfl ?_
      exact ⟨fun h => by have := HCC.out; omega, fun _ => by rw [HCC.out]; exact ⟨_, _, _, _, _, _, _, rfl, hB'⟩⟩
  have d5 : decide (rd < 1) = false := decide_eq_false (by omega)
  have d6 : decide (1099511627775 < rd) = false := decide_eq_false (by omega)
  replace HD := Lib.hid (by have := HD.out; rw [if_pos sR] at this; exact this)
  clear sR
  replace HD := Lib.hid (by have := HD.out; rw [if_neg (by rw [HX2.out]; decide)] at this; exact this)
  have HDAT := Lib.hid (show l.getD 2 0 = 1 ∧ l.getD 4 0 = x4 ∧ roundD l = rd ∧ heardD l x3 = 0#128 ∧ atK l x3 = 10 from ⟨HX2.out, HX4.out, by unfold roundD; rw [HX2.out]; exact HRD.out, by unfold heardD; rw [HX2.out]; rfl, atK_1 HX2.out⟩)
  repeat (first | (go_at_call 57; (with_reducible refine Calls.mono (value_calls (k := 5) (LiesV.below HL.out (by (repeat' (first | (with_reducible exact Below.refl _ _) | (with_reducible assumption) | (show Below 0 _ _; with_reducible refine Below.mono (by assumption) (Nat.zero_le _)) | (with_reducible refine below_setRow ?_ ?_ _) | (with_reducible refine Below.alloc ?_ ?_ _) | (with_reducible refine Below.drew ?_) | (with_reducible refine Below.setCell ?_ ?_ _) | (with_reducible refine Below.frame ?_ _) | (with_reducible exact Nat.le_refl _) | omega | (simp only [World.size_alloc, World.size_setCell, World.size_drew, setRow_size]; omega) | (simp; omega) | (simp; done))))) HB.out hk10 (by decide)) ?_); rintro e w1 ⟨rfl, hb1⟩; have hB' : Below w.heap.size w w1 := Below.trans (by (repeat' (first | (with_reducible exact Below.refl _ _) | (with_reducible assumption) | (show Below 0 _ _; with_reducible refine Below.mono (by assumption) (Nat.zero_le _)) | (with_reducible refine below_setRow ?_ ?_ _) | (with_reducible refine Below.alloc ?_ ?_ _) | (with_reducible refine Below.drew ?_) | (with_reducible refine Below.setCell ?_ ?_ _) | (with_reducible refine Below.frame ?_ _) | (with_reducible exact Nat.le_refl _) | omega | (simp only [World.size_alloc, World.size_setCell, World.size_drew, setRow_size]; omega) | (simp; omega) | (simp; done)))) (hb1.mono (by (try simp only [World.size_alloc, World.size_setCell, World.size_drew, setRow_size]); omega)); have hr' := (show Ear.Blk w1 (w.heap.size) _ _ from by (repeat' (first | (show Ear.Blk _ _ _ _; with_reducible assumption) | (with_reducible exact Ear.Blk.new _ _ _) | (with_reducible refine Ear.Blk.new' ?_; (simp only [World.size_alloc, World.size_setCell, World.size_drew, setRow_size]; done)) | (with_reducible apply Ear.Blk.alloc) | (with_reducible apply Ear.Blk.drew) | (with_reducible apply Ear.Blk.setC) | (with_reducible apply Ear.Blk.setC' (e := by omega)) | (with_reducible apply Ear.Blk.rowC (e := by first | rfl | omega)) | (with_reducible apply Ear.Blk.otherRow) | (with_reducible apply Ear.Blk.other) | (with_reducible apply Ear.Blk.below (hb := hb1)) | (show _ ≠ _; (try simp only [World.size_alloc, World.size_setCell, World.size_drew, setRow_size]); omega) | (show _ < _; (try simp only [World.size_alloc, World.size_setCell, World.size_drew, setRow_size]); omega)))); have hx_' := (show Ear.Blk w1 (w.heap.size + 1) _ _ from by (repeat' (first | (show Ear.Blk _ _ _ _; with_reducible assumption) | (with_reducible exact Ear.Blk.new _ _ _) | (with_reducible refine Ear.Blk.new' ?_; (simp only [World.size_alloc, World.size_setCell, World.size_drew, setRow_size]; done)) | (with_reducible apply Ear.Blk.alloc) | (with_reducible apply Ear.Blk.drew) | (with_reducible apply Ear.Blk.setC) | (with_reducible apply Ear.Blk.setC' (e := by omega)) | (with_reducible apply Ear.Blk.rowC (e := by first | rfl | omega)) | (with_reducible apply Ear.Blk.otherRow) | (with_reducible apply Ear.Blk.other) | (with_reducible apply Ear.Blk.below (hb := hb1)) | (show _ ≠ _; (try simp only [World.size_alloc, World.size_setCell, World.size_drew, setRow_size]); omega) | (show _ < _; (try simp only [World.size_alloc, World.size_setCell, World.size_drew, setRow_size]); omega)))); clear hb1; (try clear hr_l); (try clear hr_c); (try clear hr_f); (try clear hr); have hr := hr'; clear hr'; (try simp only [List.set_cons_zero, List.set_cons_succ] at hr); have hr_l := hr.lt; have hr_c := hr.cell; have hr_f := hr.frozen; (try clear hx__l); (try clear hx__c); (try clear hx__f); (try clear hx_); have hx_ := hx_'; clear hx_'; (try simp only [List.set_cons_zero, List.set_cons_succ] at hx_); have hx__l := hx_.lt; have hx__c := hx_.cell; have hx__f := hx_.frozen; (try clear hB hs); have hB := hB'; clear hB'; have hs := hB.size) | go_values | go_skip | go_guarded | go_step | go_upon | go_back)
  unfold decN at HD
  by_cases s6 : l.length < 10 + 1
  · have e1 : decide ((l.length : Int) < 10 + 1) = true := decide_eq_true (by omega)
    have e2 : decide (l.length < 10 + 1) = true := decide_eq_true (by omega)
    have HCC := Lib.hid (show c = 76 from by have := HD.out; rw [show newsC l x3 10 = 76 by unfold newsC; rw [if_pos s6], if_neg (by decide)] at this; exact this.symm)
    (try simp only [Nat.reduceAdd, Int.reduceAdd] at e1 e2)
    go_wp2
    refine Ear.bp_world (fun W => Ear.Blk W w.heap.size 33 (cellsA 1 x4 rd 0#128 none 0 0) ∧ Below w.heap.size w W) ⟨Ear.Blk.renew (by (repeat' (first | (show Ear.Blk _ _ _ _; with_reducible assumption) | (with_reducible exact Ear.Blk.new _ _ _) | (with_reducible refine Ear.Blk.new' ?_; (simp only [World.size_alloc, World.size_setCell, World.size_drew, setRow_size]; done)) | (with_reducible apply Ear.Blk.alloc) | (with_reducible apply Ear.Blk.drew) | (with_reducible apply Ear.Blk.setC) | (with_reducible apply Ear.Blk.setC' (e := by omega)) | (with_reducible apply Ear.Blk.rowC (e := by first | rfl | omega)) | (with_reducible apply Ear.Blk.otherRow) | (with_reducible apply Ear.Blk.other) | (show _ ≠ _; (try simp only [World.size_alloc, World.size_setCell, World.size_drew, setRow_size]); omega) | (show _ < _; (try simp only [World.size_alloc, World.size_setCell, World.size_drew, setRow_size]); omega)))) (by first | (simp only [cellsA, List.set_cons_zero, List.set_cons_succ, hw0]; done) | rfl), by (repeat' (first | (with_reducible exact Below.refl _ _) | (with_reducible assumption) | (show Below 0 _ _; with_reducible refine Below.mono (by assumption) (Nat.zero_le _)) | (with_reducible refine below_setRow ?_ ?_ _) | (with_reducible refine Below.alloc ?_ ?_ _) | (with_reducible refine Below.drew ?_) | (with_reducible refine Below.setCell ?_ ?_ _) | (with_reducible refine Below.frame ?_ _) | (with_reducible exact Nat.le_refl _) | omega | (simp only [World.size_alloc, World.size_setCell, World.size_drew, setRow_size]; omega) | (simp; omega) | (simp; done)))⟩ ?_
    rintro W ⟨hr', hB'⟩
    have hr_c := hr'.cell
    refine bodyPost_ret (v := .tuple #[noteA 1 x4 rd 0#128 none 0 0, .int .i64 76]) (by simp [results, Try.results44, go_sem, hr_c]) rfl ?_
    exact ⟨fun h => by have := HCC.out; omega, fun _ => by rw [HCC.out]; exact ⟨_, _, _, _, _, _, _, rfl, hB'⟩⟩
  have e6 : decide ((l.length : Int) < 10 + 1) = false := decide_eq_false (by omega)
  have f6 : decide (l.length < 10 + 1) = false := decide_eq_false (by omega)
  (try simp only [Nat.reduceAdd, Int.reduceAdd] at e6 f6)
  obtain ⟨a6, m0, m1⟩ := read_at HL.out HB.out 10 (by omega)
  obtain ⟨mi, hmi⟩ : ∃ x, l.getD 10 0 = x := ⟨_, rfl⟩
  rw [hmi] at a6 m0 m1
  obtain ⟨m, rfl⟩ : ∃ m : Nat, mi = m := ⟨mi.toNat, by omega⟩
  replace a6 := (hB.cell (p := ⟨B, o + 10, none⟩) hBl).trans a6
  have HMK := Lib.hid (show manyK l 10 = m by unfold manyK; rw [hmi]; omega)
  by_cases s7 : x3 < (m : Int)
  · have e1 : decide (x3 < (m : Int)) = true := decide_eq_true s7
    have HCC := Lib.hid (show c = 75 from by have := HD.out; rw [show newsC l x3 10 = 75 by unfold newsC; rw [if_neg s6, hmi, if_pos s7], if_neg (by decide)] at this; exact this.symm)
    go_wp2
    refine Ear.bp_world (fun W => Ear.Blk W w.heap.size 33 (cellsA 1 x4 rd 0#128 none 0 0) ∧ Below w.heap.size w W) ⟨Ear.Blk.renew (by (repeat' (first | (show Ear.Blk _ _ _ _; with_reducible assumption) | (with_reducible exact Ear.Blk.new _ _ _) | (with_reducible refine Ear.Blk.new' ?_; (simp only [World.size_alloc, World.size_setCell, World.size_drew, setRow_size]; done)) | (with_reducible apply Ear.Blk.alloc) | (with_reducible apply Ear.Blk.drew) | (with_reducible apply Ear.Blk.setC) | (with_reducible apply Ear.Blk.setC' (e := by omega)) | (with_reducible apply Ear.Blk.rowC (e := by first | rfl | omega)) | (with_reducible apply Ear.Blk.otherRow) | (with_reducible apply Ear.Blk.other) | (show _ ≠ _; (try simp only [World.size_alloc, World.size_setCell, World.size_drew, setRow_size]); omega) | (show _ < _; (try simp only [World.size_alloc, World.size_setCell, World.size_drew, setRow_size]); omega)))) (by first | (simp only [cellsA, List.set_cons_zero, List.set_cons_succ, hw0]; done) | rfl), by (repeat' (first | (with_reducible exact Below.refl _ _) | (with_reducible assumption) | (show Below 0 _ _; with_reducible refine Below.mono (by assumption) (Nat.zero_le _)) | (with_reducible refine below_setRow ?_ ?_ _) | (with_reducible refine Below.alloc ?_ ?_ _) | (with_reducible refine Below.drew ?_) | (with_reducible refine Below.setCell ?_ ?_ _) | (with_reducible refine Below.frame ?_ _) | (with_reducible exact Nat.le_refl _) | omega | (simp only [World.size_alloc, World.size_setCell, World.size_drew, setRow_size]; omega) | (simp; omega) | (simp; done)))⟩ ?_
    rintro W ⟨hr', hB'⟩
    have hr_c := hr'.cell
    refine bodyPost_ret (v := .tuple #[noteA 1 x4 rd 0#128 none 0 0, .int .i64 75]) (by simp [results, Try.results44, go_sem, hr_c]) rfl ?_
    exact ⟨fun h => by have := HCC.out; omega, fun _ => by rw [HCC.out]; exact ⟨_, _, _, _, _, _, _, rfl, hB'⟩⟩
  have e7 : decide (x3 < (m : Int)) = false := decide_eq_false (by omega)
  obtain ⟨E, hE⟩ : ∃ E, newsE l x3 m (10 + 1) (-1) = E := ⟨_, rfl⟩
  replace HD := Lib.hid (show (if E = 0 then decS l (10 + 1 + m * 5) else E) = c from by have := HD.out; rw [show newsC l x3 10 = E by unfold newsC; rw [if_neg s6, hmi, if_neg (by omega), HMK.out, hE], HMK.out] at this; exact this)
  have HE0 := Lib.hid hE
  have hm100 : m ≤ 100 := by omega
  clear hmi hE
  go_wp2
  refine Ear.wp_world (Ear.Sh w.heap.size w [(w.heap.size, _, _), (w.heap.size + 1, _, _)]) (.cons (by (repeat' (first | (show Ear.Blk _ _ _ _; with_reducible assumption) | (with_reducible exact Ear.Blk.new _ _ _) | (with_reducible refine Ear.Blk.new' ?_; (simp only [World.size_alloc, World.size_setCell, World.size_drew, setRow_size]; done)) | (with_reducible apply Ear.Blk.alloc) | (with_reducible apply Ear.Blk.drew) | (with_reducible apply Ear.Blk.setC) | (with_reducible apply Ear.Blk.setC' (e := by omega)) | (with_reducible apply Ear.Blk.rowC (e := by first | rfl | omega)) | (with_reducible apply Ear.Blk.otherRow) | (with_reducible apply Ear.Blk.other) | (show _ ≠ _; (try simp only [World.size_alloc, World.size_setCell, World.size_drew, setRow_size]); omega) | (show _ < _; (try simp only [World.size_alloc, World.size_setCell, World.size_drew, setRow_size]); omega)))) (.cons (by (repeat' (first | (show Ear.Blk _ _ _ _; with_reducible assumption) | (with_reducible exact Ear.Blk.new _ _ _) | (with_reducible refine Ear.Blk.new' ?_; (simp only [World.size_alloc, World.size_setCell, World.size_drew, setRow_size]; done)) | (with_reducible apply Ear.Blk.alloc) | (with_reducible apply Ear.Blk.drew) | (with_reducible apply Ear.Blk.setC) | (with_reducible apply Ear.Blk.setC' (e := by omega)) | (with_reducible apply Ear.Blk.rowC (e := by first | rfl | omega)) | (with_reducible apply Ear.Blk.otherRow) | (with_reducible apply Ear.Blk.other) | (show _ ≠ _; (try simp only [World.size_alloc, World.size_setCell, World.size_drew, setRow_size]); omega) | (show _ < _; (try simp only [World.size_alloc, World.size_setCell, World.size_drew, setRow_size]); omega)))) (.nil (by (repeat' (first | (with_reducible exact Below.refl _ _) | (with_reducible assumption) | (show Below 0 _ _; with_reducible refine Below.mono (by assumption) (Nat.zero_le _)) | (with_reducible refine below_setRow ?_ ?_ _) | (with_reducible refine Below.alloc ?_ ?_ _) | (with_reducible refine Below.drew ?_) | (with_reducible refine Below.setCell ?_ ?_ _) | (with_reducible refine Below.frame ?_ _) | (with_reducible exact Nat.le_refl _) | omega | (simp only [World.size_alloc, World.size_setCell, World.size_drew, setRow_size]; omega) | (simp; omega) | (simp; done))))))) ?_; (try clear hr_l); (try clear hr_c); (try clear hr_f); (try clear hr); (try clear hx__l); (try clear hx__c); (try clear hx__f); (try clear hx_); (try clear hB hs); rintro w9 ⟨hr, hx_, hB⟩; replace hB : Below w.heap.size w w9 := hB; have hs := hB.size; (try simp only [List.set_cons_zero, List.set_cons_succ] at hr); (try simp only [List.set_cons_zero, List.set_cons_succ] at hx_); have hr_l := hr.lt; have hr_c := hr.cell; have hr_f := hr.frozen; have hx__l := hx_.lt; have hx__c := hx_.cell; have hx__f := hx_.frozen
  obtain ⟨i0, hi, hz0', hz1', hz2'⟩ := info_parts info_nt
  have HI := Lib.hid hi
  have HZ0 := Lib.hid hz0'
  have HZ1 := Lib.hid hz1'
  have HZ2 := Lib.hid hz2'
  clear hi hz0' hz1' hz2'
  have hr0 := hr
  have hx0 := hx_
  have hB0 := hB
  clear hr hx_ hB hs hr_l hr_c hr_f hx__l hx__c hx__f
  go_loopw [7, 11, 12] (fun at_ k _ wr => ∃ (i : Nat) (base : Option Addr) (cp : Nat), i ≤ m ∧ k = .int .i64 i ∧ at_ = .int .i64 ((10 + 1 + i * 5 : Nat) : Int) ∧ Ear.Blk wr (w.heap.size + 1) 33 [.int .i64 1, .int .i64 x4, .int .i64 rd, .int .u32 0, .int .u32 0, .int .u32 0, .int .u32 0, .slice base i cp] ∧ Ear.Blk wr w.heap.size 33 [.int .i64 0, .int .i64 0, .int .i64 0, .int .u32 0, .int .u32 0, .int .u32 0, .int .u32 0, .slice none 0 0] ∧ Hid (wr.ownsRow (w.heap.size + 2) 84 3 (.slice base i cp) i (ntsV (newsK l (10 + 1) i))) ∧ Hid (newsE l x3 (m - i) (10 + 1 + i * 5) (prevK l (10 + 1) i) = E) ∧ Below w.heap.size w wr) (fun _ k _ _ => m - (intOf k).toNat)
  case atStart => exact ⟨0, none, 0, by omega, rfl, rfl, hx0, hr0, Lib.hid (by rw [newsK_zero]; exact World.ownsRow_nil _ _ _ _), Lib.hid (by rw [Nat.zero_mul, Nat.add_zero, Nat.sub_zero, prevK_zero]; exact HE0.out), hB0⟩
  case round =>
    clear hr0 hx0 hB0 HE0
    obtain ⟨i, base, cp, him, rfl, rfl, hx_, hr, HO, HE, hB⟩ := hrel
    have hs := hB.size
    have hx__l := hx_.lt
    have hx__c := hx_.cell
    have hx__f := hx_.frozen
    have hr_l := hr.lt
    have hr_c := hr.cell
    have hr_f := hr.frozen
    obtain ⟨q, hq⟩ : ∃ q, 10 + 1 + i * 5 = q := ⟨_, rfl⟩
    rw [hq] at HE ⊢
    have HQ := Lib.hid hq
    have hbn : 10 ≤ 23 := (by first | decide | (unfold bytesN; omega))
    have hq600 : q ≤ 700 := by omega
    have HW := Lib.hid (wraps q hq600)
    by_cases hlt : i < m
    · obtain ⟨t, ht⟩ : ∃ t, m - i = t + 1 := ⟨m - i - 1, by omega⟩
      rw [ht, newsE_succ] at HE
      by_cases h5 : l.length < q + 5
      · have e2 : decide (l.length < q + 5) = true := decide_eq_true (by omega)
        have hE76 := HE.out
        rw [if_pos h5] at hE76
        have HCC := Lib.hid (show c = 76 from by have := HD.out; rw [← hE76, if_neg (by decide)] at this; exact this.symm)
        clear hE76 hq
        go_wp2
        refine Ear.bp_world (fun W => Ear.Blk W w.heap.size 33 (cellsA 1 x4 rd 0#128 base i cp) ∧ Below w.heap.size w W) ⟨Ear.Blk.renew (by (repeat' (first | (show Ear.Blk _ _ _ _; with_reducible assumption) | (with_reducible exact Ear.Blk.new _ _ _) | (with_reducible refine Ear.Blk.new' ?_; (simp only [World.size_alloc, World.size_setCell, World.size_drew, setRow_size]; done)) | (with_reducible apply Ear.Blk.alloc) | (with_reducible apply Ear.Blk.drew) | (with_reducible apply Ear.Blk.setC) | (with_reducible apply Ear.Blk.setC' (e := by omega)) | (with_reducible apply Ear.Blk.rowC (e := by first | rfl | omega)) | (with_reducible apply Ear.Blk.otherRow) | (with_reducible apply Ear.Blk.other) | (show _ ≠ _; (try simp only [World.size_alloc, World.size_setCell, World.size_drew, setRow_size]); omega) | (show _ < _; (try simp only [World.size_alloc, World.size_setCell, World.size_drew, setRow_size]); omega)))) (by first | (simp only [cellsA, List.set_cons_zero, List.set_cons_succ, hw0]; done) | rfl), by (repeat' (first | (with_reducible exact Below.refl _ _) | (with_reducible assumption) | (show Below 0 _ _; with_reducible refine Below.mono (by assumption) (Nat.zero_le _)) | (with_reducible refine below_setRow ?_ ?_ _) | (with_reducible refine Below.alloc ?_ ?_ _) | (with_reducible refine Below.drew ?_) | (with_reducible refine Below.setCell ?_ ?_ _) | (with_reducible refine Below.frame ?_ _) | (with_reducible exact Nat.le_refl _) | omega | (simp only [World.size_alloc, World.size_setCell, World.size_drew, setRow_size]; omega) | (simp; omega) | (simp; done)))⟩ ?_
        rintro W ⟨hr', hB'⟩
        have hr_c := hr'.cell
        refine bodyPost_ret (v := .tuple #[noteA 1 x4 rd 0#128 base i cp, .int .i64 76]) (by simp [results, Try.results44, go_sem, hr_c]) rfl ?_
        exact ⟨fun h => by have := HCC.out; omega, fun _ => by rw [HCC.out]; exact ⟨_, _, _, _, _, _, _, rfl, hB'⟩⟩
      · have hp5 : q + 5 ≤ l.length := by omega
        have e2 : decide (l.length < q + 5) = false := decide_eq_false (by omega)
        have hcp : ¬ cap = q + 2 := by omega
        have hi0 : q < l.length := by omega
        have hi1 : q + 1 < l.length := by omega
        have hi2 : q + 2 ≤ q + 5 := by omega
        have hi3 : q + 5 ≤ cap := by omega
        have hi4 : q + 2 + 3 ≤ l.length := by omega
        have hBl2 : B < wr.heap.size := by omega
        clear hq
        obtain ⟨b0, x0', x1'⟩ := read_at HL.out HB.out q hi0
        obtain ⟨b1, y0', y1'⟩ := read_at HL.out HB.out (q + 1) hi1
        generalize hxo : l.getD q 0 = xo at b0 x0' x1'
        generalize hxk : l.getD (q + 1) 0 = xk at b1 y0' y1'
        have c0 : wr.cell? ⟨B, o + q, none⟩ = some (.int .u8 xo) := (hB.cell (p := ⟨B, o + q, none⟩) hBl).trans b0
        have c1 : wr.cell? ⟨B, o + (q + 1), none⟩ = some (.int .u8 xk) := (hB.cell (p := ⟨B, o + (q + 1), none⟩) hBl).trans b1
        have HNT := Lib.hid (show ntK l q = ⟨xo, numK l (q + 2) 3, xk⟩ from by rw [← hxo, ← hxk]; exact ntK_eq l q)
        generalize hxt : numK l (q + 2) 3 = xt at HNT
        repeat (first | go_values | go_skip | go_guarded | go_step | go_upon | go_back)
        refine Ear.Pa.wp_region_qa 20 [(19, 12, 84, [.int .i64 0, .int .i64 0, .int .i64 0])] (by (simp only [List.map_cons, List.map_nil, Ear.repl]; rfl)) (by kernel_rfl) (by kernel_rfl) (by kernel_rfl) (by (intro p hp o ho; simp only [List.mem_cons, List.not_mem_nil, or_false] at hp; (rcases hp with rfl); all_goals (cases ho; intro a' w' K' Q' hK'; go_wp2; exact hK'))) (fun C hC1 hC2 => ?_); simp only [List.take_succ_cons, List.take_zero, List.drop_succ_cons, List.drop_zero]
        (iterate 17 (refine Ear.Pa.wpQ_run (by rfl) ?_; apply Exists.intro; refine ⟨fun K Q w' hw' hK => ?_, ?_⟩; (focus (obtain ⟨hc', hf'⟩ := Ear.bcell (hC1.out w' hw'); simp only [Act.put, List.setIfInBounds_toArray, List.set_cons_succ, List.set_cons_zero] at hK; go_wp2; exact hC2.out _ _ hw' (Below.refl _ _))); simp only [Act.put, List.setIfInBounds_toArray, List.set_cons_succ, List.set_cons_zero]))
        rw [show q + 5 - (q + 2) = 3 from Nat.add_sub_add_left q 5 2]
        refine Ear.Pa.wpQ_run (by rfl) ?_; apply Exists.intro; refine ⟨fun K Q w' hw' hK => ?_, ?_⟩; (focus (simp only [Act.put, List.setIfInBounds_toArray, List.set_cons_succ, List.set_cons_zero] at hK; go_wp2_with (refine (value_calls (k := q + 2) (LiesV.below HL.out (hB.trans ((((Below.refl _ _).drew).trans (hC1.out w' hw')).mono hs))) HB.out hi4 (by decide)).mono ?_; rintro e w'' ⟨rfl, hb''⟩); exact hC2.out _ _ hw' hb'')); simp only [Act.put, List.setIfInBounds_toArray, List.set_cons_succ, List.set_cons_zero]
        (iterate 1 (refine Ear.Pa.wpQ_run (by rfl) ?_; apply Exists.intro; refine ⟨fun K Q w' hw' hK => ?_, ?_⟩; (focus (obtain ⟨hc', hf'⟩ := Ear.bcell (hC1.out w' hw'); simp only [Act.put, List.setIfInBounds_toArray, List.set_cons_succ, List.set_cons_zero] at hK; go_wp2; exact hC2.out _ _ hw' (Below.refl _ _))); simp only [Act.put, List.setIfInBounds_toArray, List.set_cons_succ, List.set_cons_zero]))
        (iterate 1 (refine Ear.Pa.wpQ_run (by rfl) ?_; refine ⟨undef, fun K Q w' hw' hK => ?_, ?_⟩; (focus (simp only [Act.put, List.setIfInBounds_toArray, List.set_cons_succ, List.set_cons_zero] at hK; go_wp2; exact hC2.out _ _ hw' (Below.refl _ _))); simp only [Act.put, List.setIfInBounds_toArray, List.set_cons_succ, List.set_cons_zero]))
        refine Ear.Pa.wpQ_nil ?_
        intro w4 o4 hb4 ho
        simp only [Ear.ov, Ear.ovo, Act.put, List.setIfInBounds_toArray, List.set_cons_succ, List.set_cons_zero]; obtain ⟨ht__B, ht__e, ht__n, ht_⟩ := ho.one; rw [ht__e]; clear ht__e ho; (try simp only [World.size_alloc, World.size_setCell, World.size_drew] at ht__n)
        clear hC1 hC2
        have hB4 : Below wr.heap.size wr w4 := ((Below.refl _ wr).drew).trans hb4
        have ht__l := ht_.lt
        have ht__c := ht_.cell
        have ht__f := ht_.frozen
        clear hb4 a0 a1 a2 a3 a4 a6 b0 b1 c0 c1 hxo hxk hxt
        repeat (first | go_values | go_skip | go_guarded | go_step | go_upon | go_back)
        refine Ear.wp_world (fun W => Ear.Blk W ht__B 84 [.int .i64 xo, .int .i64 xt, .int .i64 xk] ∧ Below wr.heap.size wr W) ⟨Ear.Blk.renew (Ear.Blk.setC (Ear.Blk.setC (Ear.Blk.setC ht_))) rfl, by (repeat' (first | (with_reducible exact Below.refl _ _) | (with_reducible assumption) | (show Below 0 _ _; with_reducible refine Below.mono (by assumption) (Nat.zero_le _)) | (with_reducible refine below_setRow ?_ ?_ _) | (with_reducible refine Below.alloc ?_ ?_ _) | (with_reducible refine Below.drew ?_) | (with_reducible refine Below.setCell ?_ ?_ _) | (with_reducible refine Below.frame ?_ _) | (with_reducible exact Nat.le_refl _) | omega | (simp only [World.size_alloc, World.size_setCell, World.size_drew, setRow_size]; omega) | (simp; omega) | (simp; done)))⟩ ?_
        clear ht_ ht__l ht__c ht__f hB4
        rintro w5 ⟨hy, hB5⟩
        have hy_l := hy.lt
        have hy_c := hy.cell
        have hx5 := hx_.below hB5 hx__l
        have hr5 := hr.below hB5 hr_l
        have hx5_l := hx5.lt
        have hx5_c := hx5.cell
        have hr5_l := hr5.lt
        have HO5 := Lib.hid (owns_below HO.out hB5)
        have hs5 := hB5.size
        have HBB := Lib.hid (hB.trans (hB5.mono hs))
        clear hB5 HO hx_ hx__l hx__c hx__f hr hr_l hr_c hr_f hB hBl hBl2 hs
        rw [if_neg h5] at HE
        have hnt := HNT.out
        obtain ⟨v, hv⟩ : ∃ v, validN x3 (ntK l q) = v := ⟨_, rfl⟩
        rw [hnt] at hv
        have HV := Lib.hid hv
        cases v with
        | false =>
          have hE75 := HE.out
          rw [hnt, if_neg (by rw [hv]; simp)] at hE75
          have HCC := Lib.hid (show c = 75 from by have := HD.out; rw [← hE75, if_neg (by decide)] at this; exact this.symm)
          clear hv hnt hE75
          repeat (first | go_values | go_skip | go_guarded | go_step | go_upon | go_back)
          refine Ear.Pl.wp_region_qb 19 (by kernel_rfl) (by kernel_rfl) (fun C hC1 hC2 => ?_); simp only [List.take_succ_cons, List.take_zero, List.drop_succ_cons, List.drop_zero]
          (iterate 2 (refine Ear.Pl.wpQ_run (by rfl) ?_; apply Exists.intro; refine ⟨fun K Q hK w' hw' => ?_, ?_⟩; (focus (obtain ⟨hc', hf'⟩ := Ear.bcell (hC1.out w' hw'); simp only [Act.put, List.setIfInBounds_toArray, List.set_cons_succ, List.set_cons_zero] at hK; go_wp2; exact hw')); simp only [Act.put, List.setIfInBounds_toArray, List.set_cons_succ, List.set_cons_zero]))
          refine Ear.Pl.wpQ_run (by rfl) ?_; apply Exists.intro; refine ⟨fun K Q hK w' hw' => ?_, ?_⟩; (focus (simp only [Act.put, List.setIfInBounds_toArray, List.set_cons_succ, List.set_cons_zero] at hK; go_wp2_with (refine (RValid_eq HV.out _).mono ?_; rintro e w'' ⟨rfl, hb''⟩); exact hC2.out _ _ hw' hb'')); simp only [Act.put, List.setIfInBounds_toArray, List.set_cons_succ, List.set_cons_zero]
          (iterate 2 (refine Ear.Pl.wpQ_run (by rfl) ?_; apply Exists.intro; refine ⟨fun K Q hK w' hw' => ?_, ?_⟩; (focus (obtain ⟨hc', hf'⟩ := Ear.bcell (hC1.out w' hw'); simp only [Act.put, List.setIfInBounds_toArray, List.set_cons_succ, List.set_cons_zero] at hK; go_wp2; exact hw')); simp only [Act.put, List.setIfInBounds_toArray, List.set_cons_succ, List.set_cons_zero]))
          (iterate 14 (refine Ear.Pl.wpQ_skip (by rfl) ?_; simp only [Act.put, List.setIfInBounds_toArray, List.set_cons_succ, List.set_cons_zero]))
          refine Ear.Pl.wpQ_nil ?_
          intro w6 hb6
          clear hC1 hC2
          have hB6 : Below w5.heap.size w5 w6 := ((Below.refl _ w5).drew).trans hb6
          have hBw6 : Below w.heap.size w w6 := HBB.out.trans (hB6.mono HBB.out.size)
          have hx6 := hx5.below hB6 hx5_l
          have hr6 := hr5.below hB6 hr5_l
          have hx6_l := hx6.lt
          have hx6_c := hx6.cell
          have hr6_l := hr6.lt
          have hr6_c := hr6.cell
          have hr6_f := hr6.frozen
          clear hb6 hB6 hx5 hr5 hx5_l hx5_c hr5_l HO5 hy hy_l hy_c
          go_wp2
          refine Ear.bp_world (fun W => Ear.Blk W w.heap.size 33 (cellsA 1 x4 rd 0#128 base i cp) ∧ Below w.heap.size w W) ⟨Ear.Blk.renew (by (repeat' (first | (show Ear.Blk _ _ _ _; with_reducible assumption) | (with_reducible exact Ear.Blk.new _ _ _) | (with_reducible refine Ear.Blk.new' ?_; (simp only [World.size_alloc, World.size_setCell, World.size_drew, setRow_size]; done)) | (with_reducible apply Ear.Blk.alloc) | (with_reducible apply Ear.Blk.drew) | (with_reducible apply Ear.Blk.setC) | (with_reducible apply Ear.Blk.setC' (e := by omega)) | (with_reducible apply Ear.Blk.rowC (e := by first | rfl | omega)) | (with_reducible apply Ear.Blk.otherRow) | (with_reducible apply Ear.Blk.other) | (show _ ≠ _; (try simp only [World.size_alloc, World.size_setCell, World.size_drew, setRow_size]); omega) | (show _ < _; (try simp only [World.size_alloc, World.size_setCell, World.size_drew, setRow_size]); omega)))) (by first | (simp only [cellsA, List.set_cons_zero, List.set_cons_succ, hw0]; done) | rfl), by (repeat' (first | (with_reducible exact Below.refl _ _) | (with_reducible assumption) | (show Below 0 _ _; with_reducible refine Below.mono (by assumption) (Nat.zero_le _)) | (with_reducible refine below_setRow ?_ ?_ _) | (with_reducible refine Below.alloc ?_ ?_ _) | (with_reducible refine Below.drew ?_) | (with_reducible refine Below.setCell ?_ ?_ _) | (with_reducible refine Below.frame ?_ _) | (with_reducible exact Nat.le_refl _) | omega | (simp only [World.size_alloc, World.size_setCell, World.size_drew, setRow_size]; omega) | (simp; omega) | (simp; done)))⟩ ?_
          rintro W ⟨hr', hB'⟩
          have hr_c := hr'.cell
          refine bodyPost_ret (v := .tuple #[noteA 1 x4 rd 0#128 base i cp, .int .i64 75]) (by simp [results, Try.results44, go_sem, hr_c]) rfl ?_
          exact ⟨fun h => by have := HCC.out; omega, fun _ => by rw [HCC.out]; exact ⟨_, _, _, _, _, _, _, rfl, hB'⟩⟩
        | true =>
          clear hv
          cases i with
          | zero =>
            have HLT := Lib.hid (show prevK l (10 + 1) 0 < xo from by rw [prevK_zero]; omega)
            repeat (first | go_values | go_skip | go_guarded | go_step | go_upon | go_back)
            refine Ear.Pl.wp_region_qb 19 (by kernel_rfl) (by kernel_rfl) (fun C hC1 hC2 => ?_); simp only [List.take_succ_cons, List.take_zero, List.drop_succ_cons, List.drop_zero]
            (iterate 2 (refine Ear.Pl.wpQ_run (by rfl) ?_; apply Exists.intro; refine ⟨fun K Q hK w' hw' => ?_, ?_⟩; (focus (obtain ⟨hc', hf'⟩ := Ear.bcell (hC1.out w' hw'); simp only [Act.put, List.setIfInBounds_toArray, List.set_cons_succ, List.set_cons_zero] at hK; go_wp2; exact hw')); simp only [Act.put, List.setIfInBounds_toArray, List.set_cons_succ, List.set_cons_zero]))
            refine Ear.Pl.wpQ_run (by rfl) ?_; apply Exists.intro; refine ⟨fun K Q hK w' hw' => ?_, ?_⟩; (focus (simp only [Act.put, List.setIfInBounds_toArray, List.set_cons_succ, List.set_cons_zero] at hK; go_wp2_with (refine (RValid_eq HV.out _).mono ?_; rintro e w'' ⟨rfl, hb''⟩); exact hC2.out _ _ hw' hb'')); simp only [Act.put, List.setIfInBounds_toArray, List.set_cons_succ, List.set_cons_zero]
            (iterate 5 (refine Ear.Pl.wpQ_run (by rfl) ?_; apply Exists.intro; refine ⟨fun K Q hK w' hw' => ?_, ?_⟩; (focus (obtain ⟨hc', hf'⟩ := Ear.bcell (hC1.out w' hw'); simp only [Act.put, List.setIfInBounds_toArray, List.set_cons_succ, List.set_cons_zero] at hK; go_wp2; exact hw')); simp only [Act.put, List.setIfInBounds_toArray, List.set_cons_succ, List.set_cons_zero]))
            (iterate 10 (refine Ear.Pl.wpQ_skip (by rfl) ?_; simp only [Act.put, List.setIfInBounds_toArray, List.set_cons_succ, List.set_cons_zero]))
            (iterate 1 (refine Ear.Pl.wpQ_run (by rfl) ?_; apply Exists.intro; refine ⟨fun K Q hK w' hw' => ?_, ?_⟩; (focus (obtain ⟨hc', hf'⟩ := Ear.bcell (hC1.out w' hw'); simp only [Act.put, List.setIfInBounds_toArray, List.set_cons_succ, List.set_cons_zero] at hK; go_wp2; exact hw')); simp only [Act.put, List.setIfInBounds_toArray, List.set_cons_succ, List.set_cons_zero]))
            refine Ear.Pl.wpQ_nil ?_
            intro w6 hb6
            clear hC1 hC2
            have hB6 : Below w5.heap.size w5 w6 := ((Below.refl _ w5).drew).trans hb6
            have HBW := Lib.hid (HBB.out.trans (hB6.mono HBB.out.size))
            have hsw6 := HBW.out.size
            have hx6 := hx5.below hB6 hx5_l
            have hr6 := hr5.below hB6 hr5_l
            have hy6 := hy.below hB6 hy_l
            have HO6 := Lib.hid (owns_below HO5.out hB6)
            have hx6_l := hx6.lt
            have hx6_c := hx6.cell
            have hy6_l := hy6.lt
            have hy6_c := hy6.cell
            have hr6_l := hr6.lt
            have hr6_c := hr6.cell
            have hr6_f := hr6.frozen
            clear hb6 hB6 hx5 hr5 hx5_l hx5_c hr5_l HO5 hy hy_l hy_c
            have HEE := Lib.hid (show newsE l x3 (m - (0 + 1)) (10 + 1 + (0 + 1) * 5) (prevK l (10 + 1) (0 + 1)) = E from by
              have := HE.out
              rw [hnt, if_pos ⟨HV.out, HLT.out⟩] at this
              rw [(prevK_succ l (10 + 1) 0).trans (congrArg Nt.of_ ((congrArg (ntK l) HQ.out).trans hnt)), show 10 + 1 + (0 + 1) * 5 = q + 5 by have := HQ.out; omega, show m - (0 + 1) = t by omega]
              exact this)
            have HNS := Lib.hid (show newsK l (10 + 1) (0 + 1) = newsK l (10 + 1) 0 ++ [⟨xo, xt, xk⟩] from by rw [newsK_succ, (congrArg (ntK l) HQ.out).trans hnt])
            have hP5 := Lib.hid (show 10 + 1 + (0 + 1) * 5 = q + 5 by have := HQ.out; omega)
            have hown := HO6.out
            clear hnt HE HO6
            go_wp2_with (at_builtin; refine wpList_append_own _ rfl _ _ 31 rfl (w.heap.size + 2) 84 i0 _ 3 24 Try.underlying31 HI.out HZ0.out HZ1.out HZ2.out rfl (by decide) _ _ _ rfl (hown.alloc _) ⟨w6.heap.size, 0, none⟩ 1 1 [.int .i64 xo, .int .i64 xt, .int .i64 xk] rfl rfl ?c1 ?c2 ?c3 ?c4 ?c5 ?_)
            case c1 => exact Ear.cells_new w6 [.int .i64 xo, .int .i64 xt, .int .i64 xk] _
            case c2 => simp [Value.oneCell']
            case c3 => unfold maxLen; omega
            case c4 => omega
            case c5 => simp only [World.size_alloc]; omega
            intro v' w13 hown' hgrow _
            obtain ⟨base', cap', rfl⟩ := owns_slice hown'
            have HO13 := Lib.hid hown'
            have hx13 := (hx6.alloc (.cells #[.int .i64 xo, .int .i64 xt, .int .i64 xk] 84)).grown hgrow (fun e => by have := (hown.lt _ e.symm).1; omega)
            have hr13 := (hr6.alloc (.cells #[.int .i64 xo, .int .i64 xt, .int .i64 xk] 84)).grown hgrow (fun e => by have := (hown.lt _ e.symm).1; omega)
            have hB13 := Lib.hid (Ear.Keep.below (n := w.heap.size) (HBW.out.alloc hsw6 (.cells #[.int .i64 xo, .int .i64 xt, .int .i64 xk] 84)) (Ear.Keep.grown (S := fun k => w.heap.size ≤ k) (Ear.Keep.refl _ _) hgrow (fun j hj => .inl (Nat.le_trans (by omega) (hown.lt j hj).1))) (by simp only [World.size_alloc]; omega) (fun _ h => h))
            have hx13_l := hx13.lt
            have hx13_c := hx13.cell
            have hx13_f := hx13.frozen
            clear hown hown' hgrow hx6 hx6_l hx6_c hr6 hr6_l hr6_c hr6_f
            go_wp2
            go_roundw
            case rel => exact ⟨0 + 1, base', cap', by omega, by go_num, by rw [hP5.out]; go_num, Ear.Blk.set' hx13 rfl, Ear.Blk.other hr13 _ (by show w.heap.size ≠ w.heap.size + 1; omega) _, Lib.hid (by rw [HNS.out, ntsV_snoc]; simpa [ntV] using owns_set HO13.out (by omega)), HEE, hB13.out.setCell (by show w.heap.size ≤ w.heap.size + 1; omega) _⟩
            case measure => simp [intOf]; omega
          | succ j =>
            obtain ⟨B2, o2, rfl, hl2, p0, -, -⟩ := nts_get j (by rw [newsK_len]; omega) (owns_liesV HO5.out) (Below.refl _ _) (Nat.le_refl _)
            rw [newsK_get l (10 + 1) (j + 1) j (by omega) _] at p0
            have HPREV := Lib.hid (prevK_succ l (10 + 1) j)
            generalize (ntK l (10 + 1 + j * 5)).of_ = po at p0 HPREV
            obtain ⟨d, hd⟩ : ∃ d, decide (xo ≤ po) = d := ⟨_, rfl⟩
            have hq0 : decide (0 < (j : Int) + 1) = true := decide_eq_true (by omega)
            repeat (first | go_values | go_skip | go_guarded | go_step | go_upon | go_back)
            refine Ear.Pl.wp_region_qb 19 (by kernel_rfl) (by kernel_rfl) (fun C hC1 hC2 => ?_); simp only [List.take_succ_cons, List.take_zero, List.drop_succ_cons, List.drop_zero]
            (iterate 2 (refine Ear.Pl.wpQ_run (by rfl) ?_; apply Exists.intro; refine ⟨fun K Q hK w' hw' => ?_, ?_⟩; (focus (obtain ⟨hc', hf'⟩ := Ear.bcell (hC1.out w' hw'); simp only [Act.put, List.setIfInBounds_toArray, List.set_cons_succ, List.set_cons_zero] at hK; go_wp2; exact hw')); simp only [Act.put, List.setIfInBounds_toArray, List.set_cons_succ, List.set_cons_zero]))
            refine Ear.Pl.wpQ_run (by rfl) ?_; apply Exists.intro; refine ⟨fun K Q hK w' hw' => ?_, ?_⟩; (focus (simp only [Act.put, List.setIfInBounds_toArray, List.set_cons_succ, List.set_cons_zero] at hK; go_wp2_with (refine (RValid_eq HV.out _).mono ?_; rintro e w'' ⟨rfl, hb''⟩); exact hC2.out _ _ hw' hb'')); simp only [Act.put, List.setIfInBounds_toArray, List.set_cons_succ, List.set_cons_zero]
            cases d with
            | true =>
              (iterate 16 (refine Ear.Pl.wpQ_run (by rfl) ?_; apply Exists.intro; refine ⟨fun K Q hK w' hw' => ?_, ?_⟩; (focus (obtain ⟨hc', hf'⟩ := Ear.bcell (hC1.out w' hw'); simp only [Act.put, List.setIfInBounds_toArray, List.set_cons_succ, List.set_cons_zero] at hK; go_wp2; exact hw')); simp only [Act.put, List.setIfInBounds_toArray, List.set_cons_succ, List.set_cons_zero]))
              refine Ear.Pl.wpQ_nil ?_
              intro w6 hb6
              clear hC1 hC2
              have hB6 : Below w5.heap.size w5 w6 := ((Below.refl _ w5).drew).trans hb6
              have HBW := Lib.hid (HBB.out.trans (hB6.mono HBB.out.size))
              have hsw6 := HBW.out.size
              have hx6 := hx5.below hB6 hx5_l
              have hr6 := hr5.below hB6 hr5_l
              have hy6 := hy.below hB6 hy_l
              have HO6 := Lib.hid (owns_below HO5.out hB6)
              have hx6_l := hx6.lt
              have hx6_c := hx6.cell
              have hy6_l := hy6.lt
              have hy6_c := hy6.cell
              have hr6_l := hr6.lt
              have hr6_c := hr6.cell
              have hr6_f := hr6.frozen
              clear hb6 hB6 hx5 hr5 hx5_l hx5_c hr5_l HO5 hy hy_l hy_c
              have hBw6 := HBW.out
              have hE75 := HE.out
              rw [hnt, if_neg (by rintro ⟨-, h⟩; rw [HPREV.out] at h; exact absurd (of_decide_eq_true hd) (Int.not_le.2 h))] at hE75
              have HCC := Lib.hid (show c = 75 from by have := HD.out; rw [← hE75, if_neg (by decide)] at this; exact this.symm)
              clear hnt hE75 HO6 hy6 hy6_c HBW
              go_wp2
              refine Ear.bp_world (fun W => Ear.Blk W w.heap.size 33 (cellsA 1 x4 rd 0#128 (some ⟨B2, o2, none⟩) (j + 1) cp) ∧ Below w.heap.size w W) ⟨Ear.Blk.renew (by (repeat' (first | (show Ear.Blk _ _ _ _; with_reducible assumption) | (with_reducible exact Ear.Blk.new _ _ _) | (with_reducible refine Ear.Blk.new' ?_; (simp only [World.size_alloc, World.size_setCell, World.size_drew, setRow_size]; done)) | (with_reducible apply Ear.Blk.alloc) | (with_reducible apply Ear.Blk.drew) | (with_reducible apply Ear.Blk.setC) | (with_reducible apply Ear.Blk.setC' (e := by omega)) | (with_reducible apply Ear.Blk.rowC (e := by first | rfl | omega)) | (with_reducible apply Ear.Blk.otherRow) | (with_reducible apply Ear.Blk.other) | (show _ ≠ _; (try simp only [World.size_alloc, World.size_setCell, World.size_drew, setRow_size]); omega) | (show _ < _; (try simp only [World.size_alloc, World.size_setCell, World.size_drew, setRow_size]); omega)))) (by first | (simp only [cellsA, List.set_cons_zero, List.set_cons_succ, hw0]; done) | rfl), by (repeat' (first | (with_reducible exact Below.refl _ _) | (with_reducible assumption) | (show Below 0 _ _; with_reducible refine Below.mono (by assumption) (Nat.zero_le _)) | (with_reducible refine below_setRow ?_ ?_ _) | (with_reducible refine Below.alloc ?_ ?_ _) | (with_reducible refine Below.drew ?_) | (with_reducible refine Below.setCell ?_ ?_ _) | (with_reducible refine Below.frame ?_ _) | (with_reducible exact Nat.le_refl _) | omega | (simp only [World.size_alloc, World.size_setCell, World.size_drew, setRow_size]; omega) | (simp; omega) | (simp; done)))⟩ ?_
              rintro W ⟨hr', hB'⟩
              have hr_c := hr'.cell
              refine bodyPost_ret (v := .tuple #[noteA 1 x4 rd 0#128 (some ⟨B2, o2, none⟩) (j + 1) cp, .int .i64 75]) (by simp [results, Try.results44, go_sem, hr_c]) rfl ?_
              exact ⟨fun h => by have := HCC.out; omega, fun _ => by rw [HCC.out]; exact ⟨_, _, _, _, _, _, _, rfl, hB'⟩⟩
            | false =>
              (iterate 16 (refine Ear.Pl.wpQ_run (by rfl) ?_; apply Exists.intro; refine ⟨fun K Q hK w' hw' => ?_, ?_⟩; (focus (obtain ⟨hc', hf'⟩ := Ear.bcell (hC1.out w' hw'); simp only [Act.put, List.setIfInBounds_toArray, List.set_cons_succ, List.set_cons_zero] at hK; go_wp2; exact hw')); simp only [Act.put, List.setIfInBounds_toArray, List.set_cons_succ, List.set_cons_zero]))
              have HLT := Lib.hid (show prevK l (10 + 1) (j + 1) < xo from by rw [HPREV.out]; have := of_decide_eq_false hd; omega)
              refine Ear.Pl.wpQ_nil ?_
              intro w6 hb6
              clear hC1 hC2
              have hB6 : Below w5.heap.size w5 w6 := ((Below.refl _ w5).drew).trans hb6
              have HBW := Lib.hid (HBB.out.trans (hB6.mono HBB.out.size))
              have hsw6 := HBW.out.size
              have hx6 := hx5.below hB6 hx5_l
              have hr6 := hr5.below hB6 hr5_l
              have hy6 := hy.below hB6 hy_l
              have HO6 := Lib.hid (owns_below HO5.out hB6)
              have hx6_l := hx6.lt
              have hx6_c := hx6.cell
              have hy6_l := hy6.lt
              have hy6_c := hy6.cell
              have hr6_l := hr6.lt
              have hr6_c := hr6.cell
              have hr6_f := hr6.frozen
              clear hb6 hB6 hx5 hr5 hx5_l hx5_c hr5_l HO5 hy hy_l hy_c
              have HEE := Lib.hid (show newsE l x3 (m - ((j + 1) + 1)) (10 + 1 + ((j + 1) + 1) * 5) (prevK l (10 + 1) ((j + 1) + 1)) = E from by
                have := HE.out
                rw [hnt, if_pos ⟨HV.out, HLT.out⟩] at this
                rw [(prevK_succ l (10 + 1) (j + 1)).trans (congrArg Nt.of_ ((congrArg (ntK l) HQ.out).trans hnt)), show 10 + 1 + ((j + 1) + 1) * 5 = q + 5 by have := HQ.out; omega, show m - ((j + 1) + 1) = t by omega]
                exact this)
              have HNS := Lib.hid (show newsK l (10 + 1) ((j + 1) + 1) = newsK l (10 + 1) (j + 1) ++ [⟨xo, xt, xk⟩] from by rw [newsK_succ, (congrArg (ntK l) HQ.out).trans hnt])
              have hP5 := Lib.hid (show 10 + 1 + ((j + 1) + 1) * 5 = q + 5 by have := HQ.out; omega)
              have hown := HO6.out
              clear hnt HE HO6
              go_wp2_with (at_builtin; refine wpList_append_own _ rfl _ _ 31 rfl (w.heap.size + 2) 84 i0 _ 3 24 Try.underlying31 HI.out HZ0.out HZ1.out HZ2.out rfl (by decide) _ _ _ rfl (hown.alloc _) ⟨w6.heap.size, 0, none⟩ 1 1 [.int .i64 xo, .int .i64 xt, .int .i64 xk] rfl rfl ?c1 ?c2 ?c3 ?c4 ?c5 ?_)
              case c1 => exact Ear.cells_new w6 [.int .i64 xo, .int .i64 xt, .int .i64 xk] _
              case c2 => simp [Value.oneCell']
              case c3 => unfold maxLen; omega
              case c4 => omega
              case c5 => simp only [World.size_alloc]; omega
              intro v' w13 hown' hgrow _
              obtain ⟨base', cap', rfl⟩ := owns_slice hown'
              have HO13 := Lib.hid hown'
              have hx13 := (hx6.alloc (.cells #[.int .i64 xo, .int .i64 xt, .int .i64 xk] 84)).grown hgrow (fun e => by have := (hown.lt _ e.symm).1; omega)
              have hr13 := (hr6.alloc (.cells #[.int .i64 xo, .int .i64 xt, .int .i64 xk] 84)).grown hgrow (fun e => by have := (hown.lt _ e.symm).1; omega)
              have hB13 := Lib.hid (Ear.Keep.below (n := w.heap.size) (HBW.out.alloc hsw6 (.cells #[.int .i64 xo, .int .i64 xt, .int .i64 xk] 84)) (Ear.Keep.grown (S := fun k => w.heap.size ≤ k) (Ear.Keep.refl _ _) hgrow (fun j hj => .inl (Nat.le_trans (by omega) (hown.lt j hj).1))) (by simp only [World.size_alloc]; omega) (fun _ h => h))
              have hx13_l := hx13.lt
              have hx13_c := hx13.cell
              have hx13_f := hx13.frozen
              clear hown hown' hgrow hx6 hx6_l hx6_c hr6 hr6_l hr6_c hr6_f
              go_wp2
              go_roundw
              case rel => exact ⟨(j + 1) + 1, base', cap', by omega, by go_num, by rw [hP5.out]; go_num, Ear.Blk.set' hx13 rfl, Ear.Blk.other hr13 _ (by show w.heap.size ≠ w.heap.size + 1; omega) _, Lib.hid (by rw [HNS.out, ntsV_snoc]; simpa [ntV] using owns_set HO13.out (by omega)), HEE, hB13.out.setCell (by show w.heap.size ≤ w.heap.size + 1; omega) _⟩
              case measure => simp [intOf]; omega
    · have him' : i = m := by omega
      clear hq
      have HD2 := Lib.hid (show (if E = 0 then decS l q else E) = c from by have := HD.out; rw [← him', HQ.out] at this; exact this)
      subst him'
      have HE0 := Lib.hid (show E = 0 from by have := HE.out; rw [Nat.sub_self, newsE_zero] at this; exact this.symm)
      clear HE
      have HS := Lib.hid (show decS l q = c from by have := HD2.out; rw [if_pos HE0.out] at this; exact this)
      clear HD2 HD
      unfold decS at HS
      by_cases h8 : l.length < q + 4
      · have e8 : decide (l.length < q + 4) = true := decide_eq_true (by omega)
        have hS76 := HS.out
        rw [if_pos h8] at hS76
        have HCC := Lib.hid (show c = 76 from hS76.symm)
        clear hS76
        go_wp2
        refine Ear.bp_world (fun W => Ear.Blk W w.heap.size 33 (cellsA 1 x4 rd 0#128 base i cp) ∧ Below w.heap.size w W) ⟨Ear.Blk.renew (by (repeat' (first | (show Ear.Blk _ _ _ _; with_reducible assumption) | (with_reducible exact Ear.Blk.new _ _ _) | (with_reducible refine Ear.Blk.new' ?_; (simp only [World.size_alloc, World.size_setCell, World.size_drew, setRow_size]; done)) | (with_reducible apply Ear.Blk.alloc) | (with_reducible apply Ear.Blk.drew) | (with_reducible apply Ear.Blk.setC) | (with_reducible apply Ear.Blk.setC' (e := by omega)) | (with_reducible apply Ear.Blk.rowC (e := by first | rfl | omega)) | (with_reducible apply Ear.Blk.otherRow) | (with_reducible apply Ear.Blk.other) | (show _ ≠ _; (try simp only [World.size_alloc, World.size_setCell, World.size_drew, setRow_size]); omega) | (show _ < _; (try simp only [World.size_alloc, World.size_setCell, World.size_drew, setRow_size]); omega)))) (by first | (simp only [cellsA, List.set_cons_zero, List.set_cons_succ, hw0]; done) | rfl), by (repeat' (first | (with_reducible exact Below.refl _ _) | (with_reducible assumption) | (show Below 0 _ _; with_reducible refine Below.mono (by assumption) (Nat.zero_le _)) | (with_reducible refine below_setRow ?_ ?_ _) | (with_reducible refine Below.alloc ?_ ?_ _) | (with_reducible refine Below.drew ?_) | (with_reducible refine Below.setCell ?_ ?_ _) | (with_reducible refine Below.frame ?_ _) | (with_reducible exact Nat.le_refl _) | omega | (simp only [World.size_alloc, World.size_setCell, World.size_drew, setRow_size]; omega) | (simp; omega) | (simp; done)))⟩ ?_
        rintro W ⟨hr', hB'⟩
        have hr_c := hr'.cell
        refine bodyPost_ret (v := .tuple #[noteA 1 x4 rd 0#128 base i cp, .int .i64 76]) (by simp [results, Try.results44, go_sem, hr_c]) rfl ?_
        exact ⟨fun h => by have := HCC.out; omega, fun _ => by rw [HCC.out]; exact ⟨_, _, _, _, _, _, _, rfl, hB'⟩⟩
      · have hp8 : q + 4 ≤ l.length := by omega
        have e8 : decide (l.length < q + 4) = false := decide_eq_false (by omega)
        have hq5 : q ≤ 100000 := by omega
        have hi0 : q ≤ cap := by omega
        have hi1 : q + 4 ≤ cap := by omega
        have hi2 : q ≤ q + 4 := by omega
        have hlq : (l.take q).length = q := by rw [List.length_take]; omega
        obtain ⟨s, hs'⟩ : ∃ s, sumV (l.take q) = s := ⟨_, rfl⟩
        obtain ⟨u, hu⟩ : ∃ u, numK l q 4 = u := ⟨_, rfl⟩
        have hS := HS.out
        rw [if_neg h8, hu, hs'] at hS
        have HS2 := Lib.hid hS
        have HSV := Lib.hid hs'
        have HLW := Lib.hid (LiesV.below HL.out hB)
        have HLT := Lib.hid (lies_take HLW.out q)
        have HBT := Lib.hid (show byteOk (l.take q) from fun x hx => HB.out x (List.mem_of_mem_take hx))
        have HB2 := Lib.hid hB
        obtain ⟨d, hd⟩ : ∃ d, (u == s) = d := ⟨_, rfl⟩
        have hd2 : (u != s) = !d := by rw [← hd]; rfl
        clear hS hs' HS HL hB
        repeat (first | go_values | go_skip | go_guarded | go_step | go_upon | go_back)
        refine Ear.Pl.wp_region_qb 10 (by kernel_rfl) (by kernel_rfl) (fun C hC1 hC2 => ?_); simp only [List.take_succ_cons, List.take_zero, List.drop_succ_cons, List.drop_zero]
        (iterate 5 (refine Ear.Pl.wpQ_run (by rfl) ?_; apply Exists.intro; refine ⟨fun K Q hK w' hw' => ?_, ?_⟩; (focus (obtain ⟨hc', hf'⟩ := Ear.bcell (hC1.out w' hw'); simp only [Act.put, List.setIfInBounds_toArray, List.set_cons_succ, List.set_cons_zero] at hK; go_wp2; exact hw')); simp only [Act.put, List.setIfInBounds_toArray, List.set_cons_succ, List.set_cons_zero]))
        rw [show q + 4 - q = 4 from Nat.add_sub_cancel_left q 4]
        refine Ear.Pl.wpQ_run (by rfl) ?_; apply Exists.intro; refine ⟨fun K Q hK w' hw' => ?_, ?_⟩; (focus (simp only [Act.put, List.setIfInBounds_toArray, List.set_cons_succ, List.set_cons_zero] at hK; go_wp2_with (refine (value_calls (k := q) (LiesV.below HLW.out (((Below.refl _ _).drew).trans (hC1.out w' hw'))) HB.out hp8 (by decide)).mono ?_; rintro e w'' ⟨rfl, hb''⟩); exact hC2.out _ _ hw' hb'')); simp only [Act.put, List.setIfInBounds_toArray, List.set_cons_succ, List.set_cons_zero]
        (iterate 3 (refine Ear.Pl.wpQ_run (by rfl) ?_; apply Exists.intro; refine ⟨fun K Q hK w' hw' => ?_, ?_⟩; (focus (obtain ⟨hc', hf'⟩ := Ear.bcell (hC1.out w' hw'); simp only [Act.put, List.setIfInBounds_toArray, List.set_cons_succ, List.set_cons_zero] at hK; go_wp2; exact hw')); simp only [Act.put, List.setIfInBounds_toArray, List.set_cons_succ, List.set_cons_zero]))
        refine Ear.Pl.wpQ_run (by rfl) ?_; apply Exists.intro; refine ⟨fun K Q hK w' hw' => ?_, ?_⟩; (focus (simp only [Act.put, List.setIfInBounds_toArray, List.set_cons_succ, List.set_cons_zero] at hK; go_wp2_with (refine (RSum_n hlq HSV.out HBT.out hq5 (LiesV.below HLT.out (((Below.refl _ _).drew).trans (hC1.out w' hw')))).mono ?_; rintro e w'' ⟨rfl, hb''⟩); exact hC2.out _ _ hw' hb'')); simp only [Act.put, List.setIfInBounds_toArray, List.set_cons_succ, List.set_cons_zero]
        refine Ear.Pl.wpQ_nil ?_
        intro w6 hb6
        clear hC1 hC2
        have hB6 : Below wr.heap.size wr w6 := ((Below.refl _ wr).drew).trans hb6
        have hx6 := hx_.below hB6 hx__l
        have hr6 := hr.below hB6 hr_l
        have HO6 := Lib.hid (owns_below HO.out hB6)
        have hBw6 : Below w.heap.size w w6 := HB2.out.trans (hB6.mono HB2.out.size)
        have hx6_l := hx6.lt
        have hx6_c := hx6.cell
        have hr6_l := hr6.lt
        have hr6_c := hr6.cell
        have hr6_f := hr6.frozen
        clear hb6 hB6 HO hx_ hx__l hx__c hx__f hr hr_l hr_c hr_f hu
        cases d with
        | false =>
          have HCC := Lib.hid (show c = 77 from by have := HS2.out; rw [if_neg (by intro h; rw [h, beq_self_eq_true] at hd; cases hd)] at this; exact this.symm)
          go_wp2
          refine Ear.bp_world (fun W => Ear.Blk W w.heap.size 33 (cellsA 1 x4 rd 0#128 base i cp) ∧ Below w.heap.size w W) ⟨Ear.Blk.renew (by (repeat' (first | (show Ear.Blk _ _ _ _; with_reducible assumption) | (with_reducible exact Ear.Blk.new _ _ _) | (with_reducible refine Ear.Blk.new' ?_; (simp only [World.size_alloc, World.size_setCell, World.size_drew, setRow_size]; done)) | (with_reducible apply Ear.Blk.alloc) | (with_reducible apply Ear.Blk.drew) | (with_reducible apply Ear.Blk.setC) | (with_reducible apply Ear.Blk.setC' (e := by omega)) | (with_reducible apply Ear.Blk.rowC (e := by first | rfl | omega)) | (with_reducible apply Ear.Blk.otherRow) | (with_reducible apply Ear.Blk.other) | (show _ ≠ _; (try simp only [World.size_alloc, World.size_setCell, World.size_drew, setRow_size]); omega) | (show _ < _; (try simp only [World.size_alloc, World.size_setCell, World.size_drew, setRow_size]); omega)))) (by first | (simp only [cellsA, List.set_cons_zero, List.set_cons_succ, hw0]; done) | rfl), by (repeat' (first | (with_reducible exact Below.refl _ _) | (with_reducible assumption) | (show Below 0 _ _; with_reducible refine Below.mono (by assumption) (Nat.zero_le _)) | (with_reducible refine below_setRow ?_ ?_ _) | (with_reducible refine Below.alloc ?_ ?_ _) | (with_reducible refine Below.drew ?_) | (with_reducible refine Below.setCell ?_ ?_ _) | (with_reducible refine Below.frame ?_ _) | (with_reducible exact Nat.le_refl _) | omega | (simp only [World.size_alloc, World.size_setCell, World.size_drew, setRow_size]; omega) | (simp; omega) | (simp; done)))⟩ ?_
          rintro W ⟨hr', hB'⟩
          have hr_c := hr'.cell
          refine bodyPost_ret (v := .tuple #[noteA 1 x4 rd 0#128 base i cp, .int .i64 77]) (by simp [results, Try.results44, go_sem, hr_c]) rfl ?_
          exact ⟨fun h => by have := HCC.out; omega, fun _ => by rw [HCC.out]; exact ⟨_, _, _, _, _, _, _, rfl, hB'⟩⟩
        | true =>
          have hus : u = s := beq_iff_eq.1 hd
          subst hus
          have hS3 := HS2.out
          rw [if_pos rfl] at hS3
          by_cases h9 : q + 4 < l.length
          · have e9 : decide (q + 4 < l.length) = true := decide_eq_true h9
            have HCC := Lib.hid (show c = 2 from by rw [if_neg (by omega)] at hS3; exact hS3.symm)
            clear hS3
            go_wp2
            refine Ear.bp_world (fun W => Ear.Blk W w.heap.size 33 (cellsA 1 x4 rd 0#128 base i cp) ∧ Below w.heap.size w W) ⟨Ear.Blk.renew (by (repeat' (first | (show Ear.Blk _ _ _ _; with_reducible assumption) | (with_reducible exact Ear.Blk.new _ _ _) | (with_reducible refine Ear.Blk.new' ?_; (simp only [World.size_alloc, World.size_setCell, World.size_drew, setRow_size]; done)) | (with_reducible apply Ear.Blk.alloc) | (with_reducible apply Ear.Blk.drew) | (with_reducible apply Ear.Blk.setC) | (with_reducible apply Ear.Blk.setC' (e := by omega)) | (with_reducible apply Ear.Blk.rowC (e := by first | rfl | omega)) | (with_reducible apply Ear.Blk.otherRow) | (with_reducible apply Ear.Blk.other) | (show _ ≠ _; (try simp only [World.size_alloc, World.size_setCell, World.size_drew, setRow_size]); omega) | (show _ < _; (try simp only [World.size_alloc, World.size_setCell, World.size_drew, setRow_size]); omega)))) (by first | (simp only [cellsA, List.set_cons_zero, List.set_cons_succ, hw0]; done) | rfl), by (repeat' (first | (with_reducible exact Below.refl _ _) | (with_reducible assumption) | (show Below 0 _ _; with_reducible refine Below.mono (by assumption) (Nat.zero_le _)) | (with_reducible refine below_setRow ?_ ?_ _) | (with_reducible refine Below.alloc ?_ ?_ _) | (with_reducible refine Below.drew ?_) | (with_reducible refine Below.setCell ?_ ?_ _) | (with_reducible refine Below.frame ?_ _) | (with_reducible exact Nat.le_refl _) | omega | (simp only [World.size_alloc, World.size_setCell, World.size_drew, setRow_size]; omega) | (simp; omega) | (simp; done)))⟩ ?_
            rintro W ⟨hr', hB'⟩
            have hr_c := hr'.cell
            refine bodyPost_ret (v := .tuple #[noteA 1 x4 rd 0#128 base i cp, .int .i64 2]) (by simp [results, Try.results44, go_sem, hr_c]) rfl ?_
            exact ⟨fun h => by have := HCC.out; omega, fun _ => by rw [HCC.out]; exact ⟨_, _, _, _, _, _, _, rfl, hB'⟩⟩
          · have e9 : decide (q + 4 < l.length) = false := decide_eq_false h9
            have HCC := Lib.hid (show c = 0 from by rw [if_pos (by omega)] at hS3; exact hS3.symm)
            clear hS3
            go_wp2
            refine Ear.bp_world (fun W => Ear.Blk W w.heap.size 33 (cellsA 1 x4 rd 0#128 base i cp) ∧ W.ownsRow w.heap.size 84 3 (.slice base i cp) i (ntsV (newsK l (10 + 1) i)) ∧ Below w.heap.size w W) ⟨Ear.Blk.renew (by (repeat' (first | (show Ear.Blk _ _ _ _; with_reducible assumption) | (with_reducible exact Ear.Blk.new _ _ _) | (with_reducible refine Ear.Blk.new' ?_; (simp only [World.size_alloc, World.size_setCell, World.size_drew, setRow_size]; done)) | (with_reducible apply Ear.Blk.alloc) | (with_reducible apply Ear.Blk.drew) | (with_reducible apply Ear.Blk.setC) | (with_reducible apply Ear.Blk.setC' (e := by omega)) | (with_reducible apply Ear.Blk.rowC (e := by first | rfl | omega)) | (with_reducible apply Ear.Blk.otherRow) | (with_reducible apply Ear.Blk.other) | (show _ ≠ _; (try simp only [World.size_alloc, World.size_setCell, World.size_drew, setRow_size]); omega) | (show _ < _; (try simp only [World.size_alloc, World.size_setCell, World.size_drew, setRow_size]); omega)))) (by first | (simp only [cellsA, List.set_cons_zero, List.set_cons_succ, hw0]; done) | rfl), own_store HO6.out (by omega) (by omega), by (repeat' (first | (with_reducible exact Below.refl _ _) | (with_reducible assumption) | (show Below 0 _ _; with_reducible refine Below.mono (by assumption) (Nat.zero_le _)) | (with_reducible refine below_setRow ?_ ?_ _) | (with_reducible refine Below.alloc ?_ ?_ _) | (with_reducible refine Below.drew ?_) | (with_reducible refine Below.setCell ?_ ?_ _) | (with_reducible refine Below.frame ?_ _) | (with_reducible exact Nat.le_refl _) | omega | (simp only [World.size_alloc, World.size_setCell, World.size_drew, setRow_size]; omega) | (simp; omega) | (simp; done)))⟩ ?_
            rintro W ⟨hr', hL', hB'⟩
            have hr_c := hr'.cell
            refine bodyPost_ret (v := .tuple #[noteA 1 x4 rd 0#128 base i cp, .int .i64 0]) (by simp [results, Try.results44, go_sem, hr_c]) rfl ?_
            obtain ⟨q1, q2, q3, q4, q5⟩ := HDAT.out
            exact ⟨fun _ => ⟨base, cp, by rw [q1, q2, q3, q4, q5, HMK.out], by unfold newsD; rw [q5, HMK.out]; exact hL', hB'⟩, fun h => absurd HCC.out h⟩
end Go.Proofs.Ytklfkfnckdeifaa
