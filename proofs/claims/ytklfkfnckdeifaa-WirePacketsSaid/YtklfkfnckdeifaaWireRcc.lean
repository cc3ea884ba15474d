/-
  The document's answer to Decode: read of a note of kind 2.
  The document's answer to Decode.
-/
import Derived.Test.YtklfkfnckdeifaaWireRb
import Derived.Test.YtklfkfnckdeifaaWireRb1
import Derived.Test.YtklfkfnckdeifaaWireRb2g
import Derived.Test.YtklfkfnckdeifaaWireRb3
import Derived.Test.YtklfkfnckdeifaaWireU
section
namespace Go.Proofs.Ytklfkfnckdeifaa
set_option linter.unusedSimpArgs false
set_option linter.unusedVariables false
open Go.RowKit
attribute [local irreducible] Ear.Pl.wpQ Ear.Pa.wpQ Ear.Fe.wpQ Ear.Fa.wpQ Ear.wd withinW numK heardK sumV newsK ntK newsC heardC manyK decS decN decH decR atK bytesN low
set_option maxRecDepth 100000 in
set_option maxHeartbeats 16000000 in
theorem read_2 {w : World} {B o cap : Nat} {l : List Int} {n c : Int} (hl : LiesV (bytesV l) (some ⟨B, o, none⟩) w) (hb : byteOk l) (h1 : 1 ≤ n) (h2 : n ≤ 100) (h5 : l.length ≤ 1024) (hcap : l.length ≤ cap) (hc : decC l n = c) (hx : 5 ≤ l.length ∧ l.getD 0 0 = 101 ∧ l.getD 1 0 = 115 ∧ l.getD 3 0 = n ∧ l.getD 4 0 < n) (hk : l.getD 2 0 = 2) (hg : ¬ (10 ≤ l.length ∧ (1 ≤ numK l 5 5 ∧ numK l 5 5 ≤ 1099511627775) ∧ 10 + bytesN n ≤ l.length ∧ withinW (heardK l 10 (bytesN n)) n = true)) :
    Calls Try.prog 44 #[.slice (some ⟨B, o, none⟩) l.length cap, .int .i64 n] w (RdPost l n c w) := by
  unfold decC at hc
  have HB := Lib.hid hb
  have HL := Lib.hid hl
  have hw0 := Ear.wd_zero
  obtain ⟨x0, hx0⟩ : ∃ x, l.getD 0 0 = x := ⟨_, rfl⟩
  obtain ⟨x1, hx1⟩ : ∃ x, l.getD 1 0 = x := ⟨_, rfl⟩
  obtain ⟨x2, hx2⟩ : ∃ x, l.getD 2 0 = x := ⟨_, rfl⟩
  obtain ⟨x3, hx3⟩ : ∃ x, l.getD 3 0 = x := ⟨_, rfl⟩
  obtain ⟨x4, hx4⟩ : ∃ x, l.getD 4 0 = x := ⟨_, rfl⟩
  rw [hx0, hx1, hx2, hx3, hx4] at hc
  simp only [hx0, hx1, hx2, hx3, hx4] at hx
  obtain ⟨hx5, hx⟩ := hx
  have hx : True ∧ x0 = 101 ∧ x1 = 115 ∧ x3 = n ∧ x4 < n := ⟨trivial, hx⟩
  obtain ⟨-, hx⟩ := hx
  have hx := (show 5 ≤ l.length ∧ x0 = 101 ∧ x1 = 115 ∧ x3 = n ∧ x4 < n from ⟨hx5, hx⟩)
  have hkk : x2 = 2 := hx2.symm.trans hk
  clear hk
  have HG := Lib.hid hg
  clear hg
  have HX0 := Lib.hid hx0
  have HX1 := Lib.hid hx1
  have HX2 := Lib.hid hx2
  have HX3 := Lib.hid hx3
  have HX4 := Lib.hid hx4
  have HD := Lib.hid hc
  clear hl hb hc hx0 hx1 hx2 hx3 hx4
  go_enter Try.func44, Try.ntmps44
  have s2 : ¬ l.length < 2 := by omega
  replace HD := Lib.hid (by have := HD.out; rw [if_neg s2] at this; exact this)
  have e_s2 : decide ((l.length : Int) < 2) = false := decide_eq_false (by omega)
  have f_s2 : decide (l.length < 2) = false := decide_eq_false (by omega)
  obtain ⟨a0, -, -⟩ := read_at HL.out HB.out 0 (by omega)
  obtain ⟨a1, -, -⟩ := read_at HL.out HB.out 1 (by omega)
  rw [HX0.out, Nat.add_zero] at a0
  rw [HX1.out] at a1
  have hBl : B < w.heap.size := World.block_lt_of_cell? _ _ a0
  have sM : x0 = 101 ∧ x1 = 115 := ⟨hx.2.1, hx.2.2.1⟩
  replace HD := Lib.hid (by have := HD.out; rw [if_pos sM] at this; exact this)
  obtain ⟨rfl, rfl⟩ := sM
  have s3 : ¬ l.length < 3 := by omega
  replace HD := Lib.hid (by have := HD.out; rw [if_neg s3] at this; exact this)
  have e_s3 : decide ((l.length : Int) < 3) = false := decide_eq_false (by omega)
  have f_s3 : decide (l.length < 3) = false := decide_eq_false (by omega)
  obtain ⟨a2, -, -⟩ := read_at HL.out HB.out 2 (by omega)
  rw [HX2.out] at a2
  have sK : 1 ≤ x2 ∧ x2 ≤ 3 := by omega
  replace HD := Lib.hid (by have := HD.out; rw [if_pos sK] at this; exact this)
  have s4 : ¬ l.length < 4 := by omega
  replace HD := Lib.hid (by have := HD.out; rw [if_neg s4] at this; exact this)
  have e_s4 : decide ((l.length : Int) < 4) = false := decide_eq_false (by omega)
  have f_s4 : decide (l.length < 4) = false := decide_eq_false (by omega)
  obtain ⟨a3, v0, v1⟩ := read_at HL.out HB.out 3 (by omega)
  rw [HX3.out] at a3 v0 v1
  have sN : x3 = n := hx.2.2.2.1
  replace HD := Lib.hid (by have := HD.out; rw [if_pos sN] at this; exact this)
  subst sN
  have b3 : (x3 == x3) = true := beq_self_eq_true _
  have s5 : ¬ l.length < 5 := by omega
  replace HD := Lib.hid (by have := HD.out; rw [if_neg s5] at this; exact this)
  have e_s5 : decide ((l.length : Int) < 5) = false := decide_eq_false (by omega)
  have f_s5 : decide (l.length < 5) = false := decide_eq_false (by omega)
  obtain ⟨a4, z0, z1⟩ := read_at HL.out HB.out 4 (by omega)
  rw [HX4.out] at a4 z0 z1
  have sF : x4 < x3 := hx.2.2.2.2
  replace HD := Lib.hid (by have := HD.out; rw [if_pos sF] at this; exact this)
  have d4 : decide (x3 ≤ x4) = false := decide_eq_false (by omega)
  subst hkk
  replace HD := Lib.hid (by have := HD.out; rw [if_neg (by decide : ¬ (2 : Int) = 3)] at this; exact this)
  unfold decR at HD
  by_cases r1 : l.length < 10
  · have e1 : decide ((l.length : Int) < 10) = true := decide_eq_true (by omega)
    have e2 : decide (l.length < 10) = true := decide_eq_true (by omega)
    have HCC := Lib.hid (show c = 76 from by have := HD.out; rw [if_pos r1] at this; exact this.symm)
    go_wp2
    refine Ear.bp_world (fun W => Ear.Blk W w.heap.size 33 (cellsA 2 x4 0 0#128 none 0 0) ∧ Below w.heap.size w W) ⟨Ear.Blk.renew (by (repeat' (first | (show Ear.Blk _ _ _ _; with_reducible assumption) | (with_reducible exact Ear.Blk.new _ _ _) | (with_reducible refine Ear.Blk.new' ?_; (simp only [World.size_alloc, World.size_setCell, World.size_drew, setRow_size]; done)) | (with_reducible apply Ear.Blk.alloc) | (with_reducible apply Ear.Blk.drew) | (with_reducible apply Ear.Blk.setC) | (with_reducible apply Ear.Blk.setC' (e := by omega)) | (with_reducible apply Ear.Blk.rowC (e := by first | rfl | omega)) | (with_reducible apply Ear.Blk.otherRow) | (with_reducible apply Ear.Blk.other) | (show _ ≠ _; (try simp only [World.size_alloc, World.size_setCell, World.size_drew, setRow_size]); omega) | (show _ < _; (try simp only [World.size_alloc, World.size_setCell, World.size_drew, setRow_size]); omega)))) (by first | (simp only [cellsA, List.set_cons_zero, List.set_cons_succ, hw0]; done) | rfl), by (repeat' (first | (with_reducible exact Below.refl _ _) | (with_reducible assumption) | (show Below 0 _ _; with_reducible refine Below.mono (by assumption) (Nat.zero_le _)) | (with_reducible refine below_setRow ?_ ?_ _) | (with_reducible refine Below.alloc ?_ ?_ _) | (with_reducible refine Below.drew ?_) | (with_reducible refine Below.setCell ?_ ?_ _) | (with_reducible refine Below.frame ?_ _) | (with_reducible exact Nat.le_refl _) | omega | (simp only [World.size_alloc, World.size_setCell, World.size_drew, setRow_size]; omega) | (simp; omega) | (simp; done)))⟩ ?_
    rintro W ⟨hr', hB'⟩
    have hr_c := hr'.cell
    refine bodyPost_ret (v := .tuple #[noteA 2 x4 0 0#128 none 0 0, .int .i64 76]) (by simp [results, Try.results44, go_sem, hr_c]) rfl ?_
    exact ⟨fun h => by have := HCC.out; omega, fun _ => by rw [HCC.out]; exact ⟨_, _, _, _, _, _, _, rfl, hB'⟩⟩
  replace HD := Lib.hid (by have := HD.out; rw [if_neg r1] at this; exact this)
  have e_r1 : decide ((l.length : Int) < 10) = false := decide_eq_false (by omega)
  have f_r1 : decide (l.length < 10) = false := decide_eq_false (by omega)
  have hk10 : 5 + 5 ≤ l.length := by omega
  have hc10 : 10 ≤ cap := by omega
  obtain ⟨rd, hrd⟩ : ∃ rd, numK l 5 5 = rd := ⟨_, rfl⟩
  replace HD := Lib.hid (by have := HD.out; rw [hrd] at this; exact this)
  have HRD := Lib.hid hrd
  by_cases sR : 1 ≤ rd ∧ rd ≤ 1099511627775
  rotate_left
  · by_cases sr : 1 ≤ rd
    · have d5 : decide (rd < 1) = false := decide_eq_false (by omega)
      have d6 : decide (1099511627775 < rd) = true := decide_eq_true (by omega)
      have HCC := Lib.hid (show c = 73 from by have := HD.out; rw [if_neg sR] at this; exact this.symm)
      clear sR
      go_wp2_with (go_at_call 57; (with_reducible refine Calls.mono (value_calls (k := 5) (LiesV.below HL.out (by (repeat' (first | (with_reducible exact Below.refl _ _) | (with_reducible assumption) | (show Below 0 _ _; with_reducible refine Below.mono (by assumption) (Nat.zero_le _)) | (with_reducible refine below_setRow ?_ ?_ _) | (with_reducible refine Below.alloc ?_ ?_ _) | (with_reducible refine Below.drew ?_) | (with_reducible refine Below.setCell ?_ ?_ _) | (with_reducible refine Below.frame ?_ _) | (with_reducible exact Nat.le_refl _) | omega | (simp only [World.size_alloc, World.size_setCell, World.size_drew, setRow_size]; omega) | (simp; omega) | (simp; done))))) HB.out hk10 (by decide)) ?_); rintro e w1 ⟨rfl, hb1⟩; have hB' : Below w.heap.size w w1 := Below.trans (by (repeat' (first | (with_reducible exact Below.refl _ _) | (with_reducible assumption) | (show Below 0 _ _; with_reducible refine Below.mono (by assumption) (Nat.zero_le _)) | (with_reducible refine below_setRow ?_ ?_ _) | (with_reducible refine Below.alloc ?_ ?_ _) | (with_reducible refine Below.drew ?_) | (with_reducible refine Below.setCell ?_ ?_ _) | (with_reducible refine Below.frame ?_ _) | (with_reducible exact Nat.le_refl _) | omega | (simp only [World.size_alloc, World.size_setCell, World.size_drew, setRow_size]; omega) | (simp; omega) | (simp; done)))) (hb1.mono (by (try simp only [World.size_alloc, World.size_setCell, World.size_drew, setRow_size]); omega)); have hr' := (show Ear.Blk w1 (w.heap.size) _ _ from by (repeat' (first | (show Ear.Blk _ _ _ _; with_reducible assumption) | (with_reducible exact Ear.Blk.new _ _ _) | (with_reducible refine Ear.Blk.new' ?_; (simp only [World.size_alloc, World.size_setCell, World.size_drew, setRow_size]; done)) | (with_reducible apply Ear.Blk.alloc) | (with_reducible apply Ear.Blk.drew) | (with_reducible apply Ear.Blk.setC) | (with_reducible apply Ear.Blk.setC' (e := by omega)) | (with_reducible apply Ear.Blk.rowC (e := by first | rfl | omega)) | (with_reducible apply Ear.Blk.otherRow) | (with_reducible apply Ear.Blk.other) | (with_reducible apply Ear.Blk.below (hb := hb1)) | (show _ ≠ _; (try simp only [World.size_alloc, World.size_setCell, World.size_drew, setRow_size]); omega) | (show _ < _; (try simp only [World.size_alloc, World.size_setCell, World.size_drew, setRow_size]); omega)))); have hx_' := (show Ear.Blk w1 (w.heap.size + 1) _ _ from by (repeat' (first | (show Ear.Blk _ _ _ _; with_reducible assumption) | (with_reducible exact Ear.Blk.new _ _ _) | (with_reducible refine Ear.Blk.new' ?_; (simp only [World.size_alloc, World.size_setCell, World.size_drew, setRow_size]; done)) | (with_reducible apply Ear.Blk.alloc) | (with_reducible apply Ear.Blk.drew) | (with_reducible apply Ear.Blk.setC) | (with_reducible apply Ear.Blk.setC' (e := by omega)) | (with_reducible apply Ear.Blk.rowC (e := by first | rfl | omega)) | (with_reducible apply Ear.Blk.otherRow) | (with_reducible apply Ear.Blk.other) | (with_reducible apply Ear.Blk.below (hb := hb1)) | (show _ ≠ _; (try simp only [World.size_alloc, World.size_setCell, World.size_drew, setRow_size]); omega) | (show _ < _; (try simp only [World.size_alloc, World.size_setCell, World.size_drew, setRow_size]); omega)))); clear hb1; (try clear hr_l); (try clear hr_c); (try clear hr_f); (try clear hr); have hr := hr'; clear hr'; (try simp only [List.set_cons_zero, List.set_cons_succ] at hr); have hr_l := hr.lt; have hr_c := hr.cell; have hr_f := hr.frozen; (try clear hx__l); (try clear hx__c); (try clear hx__f); (try clear hx_); have hx_ := hx_'; clear hx_'; (try simp only [List.set_cons_zero, List.set_cons_succ] at hx_); have hx__l := hx_.lt; have hx__c := hx_.cell; have hx__f := hx_.frozen; (try clear hB hs); have hB := hB'; clear hB'; have hs := hB.size)
      refine Ear.bp_world (fun W => Ear.Blk W w.heap.size 33 (cellsA 2 x4 rd 0#128 none 0 0) ∧ Below w.heap.size w W) ⟨Ear.Blk.renew (by (repeat' (first | (show Ear.Blk _ _ _ _; with_reducible assumption) | (with_reducible exact Ear.Blk.new _ _ _) | (with_reducible refine Ear.Blk.new' ?_; (simp only [World.size_alloc, World.size_setCell, World.size_drew, setRow_size]; done)) | (with_reducible apply Ear.Blk.alloc) | (with_reducible apply Ear.Blk.drew) | (with_reducible apply Ear.Blk.setC) | (with_reducible apply Ear.Blk.setC' (e := by omega)) | (with_reducible apply Ear.Blk.rowC (e := by first | rfl | omega)) | (with_reducible apply Ear.Blk.otherRow) | (with_reducible apply Ear.Blk.other) | (show _ ≠ _; (try simp only [World.size_alloc, World.size_setCell, World.size_drew, setRow_size]); omega) | (show _ < _; (try simp only [World.size_alloc, World.size_setCell, World.size_drew, setRow_size]); omega)))) (by first | (simp only [cellsA, List.set_cons_zero, List.set_cons_succ, hw0]; done) | rfl), by (repeat' (first | (with_reducible exact Below.refl _ _) | (with_reducible assumption) | (show Below 0 _ _; with_reducible refine Below.mono (by assumption) (Nat.zero_le _)) | (with_reducible refine below_setRow ?_ ?_ _) | (with_reducible refine Below.alloc ?_ ?_ _) | (with_reducible refine Below.drew ?_) | (with_reducible refine Below.setCell ?_ ?_ _) | (with_reducible refine Below.frame ?_ _) | (with_reducible exact Nat.le_refl _) | omega | (simp only [World.size_alloc, World.size_setCell, World.size_drew, setRow_size]; omega) | (simp; omega) | (simp; done)))⟩ ?_
      rintro W ⟨hr', hB'⟩
      have hr_c := hr'.cell
      refine bodyPost_ret (v := .tuple #[noteA 2 x4 rd 0#128 none 0 0, .int .i64 73]) (by simp [results, Try.results44, go_sem, hr_c]) rfl ?_
      exact ⟨fun h => by have := HCC.out; omega, fun _ => by rw [HCC.out]; exact ⟨_, _, _, _, _, _, _, rfl, hB'⟩⟩
    · have d5 : decide (rd < 1) = true := decide_eq_true (by omega)
      have HCC := Lib.hid (show c = 73 from by have := HD.out; rw [if_neg sR] at this; exact this.symm)
      clear sR
      go_wp2_with (go_at_call 57; (with_reducible refine Calls.mono (value_calls (k := 5) (LiesV.below HL.out (by (repeat' (first | (with_reducible exact Below.refl _ _) | (with_reducible assumption) | (show Below 0 _ _; with_reducible refine Below.mono (by assumption) (Nat.zero_le _)) | (with_reducible refine below_setRow ?_ ?_ _) | (with_reducible refine Below.alloc ?_ ?_ _) | (with_reducible refine Below.drew ?_) | (with_reducible refine Below.setCell ?_ ?_ _) | (with_reducible refine Below.frame ?_ _) | (with_reducible exact Nat.le_refl _) | omega | (simp only [World.size_alloc, World.size_setCell, World.size_drew, setRow_size]; omega) | (simp; omega) | (simp; done))))) HB.out hk10 (by decide)) ?_); rintro e w1 ⟨rfl, hb1⟩; have hB' : Below w.heap.size w w1 := Below.trans (by (repeat' (first | (with_reducible exact Below.refl _ _) | (with_reducible assumption) | (show Below 0 _ _; with_reducible refine Below.mono (by assumption) (Nat.zero_le _)) | (with_reducible refine below_setRow ?_ ?_ _) | (with_reducible refine Below.alloc ?_ ?_ _) | (with_reducible refine Below.drew ?_) | (with_reducible refine Below.setCell ?_ ?_ _) | (with_reducible refine Below.frame ?_ _) | (with_reducible exact Nat.le_refl _) | omega | (simp only [World.size_alloc, World.size_setCell, World.size_drew, setRow_size]; omega) | (simp; omega) | (simp; done)))) (hb1.mono (by (try simp only [World.size_alloc, World.size_setCell, World.size_drew, setRow_size]); omega)); have hr' := (show Ear.Blk w1 (w.heap.size) _ _ from by (repeat' (first | (show Ear.Blk _ _ _ _; with_reducible assumption) | (with_reducible exact Ear.Blk.new _ _ _) | (with_reducible refine Ear.Blk.new' ?_; (simp only [World.size_alloc, World.size_setCell, World.size_drew, setRow_size]; done)) | (with_reducible apply Ear.Blk.alloc) | (with_reducible apply Ear.Blk.drew) | (with_reducible apply Ear.Blk.setC) | (with_reducible apply Ear.Blk.setC' (e := by omega)) | (with_reducible apply Ear.Blk.rowC (e := by first | rfl | omega)) | (with_reducible apply Ear.Blk.otherRow) | (with_reducible apply Ear.Blk.other) | (with_reducible apply Ear.Blk.below (hb := hb1)) | (show _ ≠ _; (try simp only [World.size_alloc, World.size_setCell, World.size_drew, setRow_size]); omega) | (show _ < _; (try simp only [World.size_alloc, World.size_setCell, World.size_drew, setRow_size]); omega)))); have hx_' := (show Ear.Blk w1 (w.heap.size + 1) _ _ from by (repeat' (first | (show Ear.Blk _ _ _ _; with_reducible assumption) | (with_reducible exact Ear.Blk.new _ _ _) | (with_reducible refine Ear.Blk.new' ?_; (simp only [World.size_alloc, World.size_setCell, World.size_drew, setRow_size]; done)) | (with_reducible apply Ear.Blk.alloc) | (with_reducible apply Ear.Blk.drew) | (with_reducible apply Ear.Blk.setC) | (with_reducible apply Ear.Blk.setC' (e := by omega)) | (with_reducible apply Ear.Blk.rowC (e := by first | rfl | omega)) | (with_reducible apply Ear.Blk.otherRow) | (with_reducible apply Ear.Blk.other) | (with_reducible apply Ear.Blk.below (hb := hb1)) | (show _ ≠ _; (try simp only [World.size_alloc, World.size_setCell, World.size_drew, setRow_size]); omega) | (show _ < _; (try simp only [World.size_alloc, World.size_setCell, World.size_drew, setRow_size]); omega)))); clear hb1; (try clear hr_l); (try clear hr_c); (try clear hr_f); (try clear hr); have hr := hr'; clear hr'; (try simp only [List.set_cons_zero, List.set_cons_succ] at hr); have hr_l := hr.lt; have hr_c := hr.cell; have hr_f := hr.frozen; (try clear hx__l); (try clear hx__c); (try clear hx__f); (try clear hx_); have hx_ := hx_'; clear hx_'; (try simp only [List.set_cons_zero, List.set_cons_succ] at hx_); have hx__l := hx_.lt; have hx__c := hx_.cell; have hx__f := hx_.frozen; (try clear hB hs); have hB := hB'; clear hB'; have hs := hB.size)
      refine Ear.bp_world (fun W => Ear.Blk W w.heap.size 33 (cellsA 2 x4 rd 0#128 none 0 0) ∧ Below w.heap.size w W) ⟨Ear.Blk.renew (by (repeat' (first | (show Ear.Blk _ _ _ _; with_reducible assumption) | (with_reducible exact Ear.Blk.new _ _ _) | (with_reducible refine Ear.Blk.new' ?_; (simp only [World.size_alloc, World.size_setCell, World.size_drew, setRow_size]; done)) | (with_reducible apply Ear.Blk.alloc) | (with_reducible apply Ear.Blk.drew) | (with_reducible apply Ear.Blk.setC) | (with_reducible apply Ear.Blk.setC' (e := by omega)) | (with_reducible apply Ear.Blk.rowC (e := by first | rfl | omega)) | (with_reducible apply Ear.Blk.otherRow) | (with_reducible apply Ear.Blk.other) | (show _ ≠ _; (try simp only [World.size_alloc, World.size_setCell, World.size_drew, setRow_size]); omega) | (show _ < _; (try simp only [World.size_alloc, World.size_setCell, World.size_drew, setRow_size]); omega)))) (by first | (simp only [cellsA, List.set_cons_zero, List.set_cons_succ, hw0]; done) | rfl), by (repeat' (first | (with_reducible exact Below.refl _ _) | (with_reducible assumption) | (show Below 0 _ _; with_reducible refine Below.mono (by assumption) (Nat.zero_le _)) | (with_reducible refine below_setRow ?_ ?_ _) | (with_reducible refine Below.alloc ?_ ?_ _) | (with_reducible refine Below.drew ?_) | (with_reducible refine Below.setCell ?_ ?_ _) | (with_reducible refine Below.frame ?_ _) | (with_reducible exact Nat.le_refl _) | omega | (simp only [World.size_alloc, World.size_setCell, World.size_drew, setRow_size]; omega) | (simp; omega) | (simp; done)))⟩ ?_
      rintro W ⟨hr', hB'⟩
      have hr_c := hr'.cell
      refine bodyPost_ret (v := .tuple #[noteA 2 x4 rd 0#128 none 0 0, .int .i64 73]) (by simp [results, Try.results44, go_sem, hr_c]) rfl ?_
      exact ⟨fun h => by have := HCC.out; omega, fun _ => by rw [HCC.out]; exact ⟨_, _, _, _, _, _, _, rfl, hB'⟩⟩
  have d5 : decide (rd < 1) = false := decide_eq_false (by omega)
  have d6 : decide (1099511627775 < rd) = false := decide_eq_false (by omega)
  replace HD := Lib.hid (by have := HD.out; rw [if_pos sR] at this; exact this)
  have HSR := Lib.hid sR
  clear sR
  replace HD := Lib.hid (by have := HD.out; rw [if_pos HX2.out] at this; exact this)
  unfold decH at HD
  obtain ⟨M, hM⟩ : ∃ M, bytesN x3 = M := ⟨_, rfl⟩
  replace HD := Lib.hid (by have := HD.out; rw [hM] at this; exact this)
  have hM8 : (x3 + 7) / 8 = (M : Int) := by unfold bytesN at hM; omega
  have hMt : Int.tdiv (x3 + 7) 8 = (M : Int) := by rw [Int.tdiv_eq_ediv_of_nonneg (by omega)]; exact hM8
  have hMn : 8 * (M : Int) < x3 + 8 := by omega
  have hMn2 : x3 ≤ 8 * (M : Int) := by omega
  have hM1 : 1 ≤ M := by omega
  have hM13 : M ≤ 13 := by omega
  have HM := Lib.hid hM
  clear hM
  by_cases h11 : l.length < 10 + M
  · have e11 : decide ((l.length : Int) < 10 + M) = true := decide_eq_true (by omega)
    have f11 : decide (l.length < 10 + M) = true := decide_eq_true (by omega)
    have HCC := Lib.hid (show c = 76 from by have := HD.out; rw [show heardC l x3 10 M = 76 by unfold heardC; rw [if_pos h11], if_neg (by decide)] at this; exact this.symm)
    go_wp2_with (go_at_call 57; (with_reducible refine Calls.mono (value_calls (k := 5) (LiesV.below HL.out (by (repeat' (first | (with_reducible exact Below.refl _ _) | (with_reducible assumption) | (show Below 0 _ _; with_reducible refine Below.mono (by assumption) (Nat.zero_le _)) | (with_reducible refine below_setRow ?_ ?_ _) | (with_reducible refine Below.alloc ?_ ?_ _) | (with_reducible refine Below.drew ?_) | (with_reducible refine Below.setCell ?_ ?_ _) | (with_reducible refine Below.frame ?_ _) | (with_reducible exact Nat.le_refl _) | omega | (simp only [World.size_alloc, World.size_setCell, World.size_drew, setRow_size]; omega) | (simp; omega) | (simp; done))))) HB.out hk10 (by decide)) ?_); rintro e w1 ⟨rfl, hb1⟩; have hB' : Below w.heap.size w w1 := Below.trans (by (repeat' (first | (with_reducible exact Below.refl _ _) | (with_reducible assumption) | (show Below 0 _ _; with_reducible refine Below.mono (by assumption) (Nat.zero_le _)) | (with_reducible refine below_setRow ?_ ?_ _) | (with_reducible refine Below.alloc ?_ ?_ _) | (with_reducible refine Below.drew ?_) | (with_reducible refine Below.setCell ?_ ?_ _) | (with_reducible refine Below.frame ?_ _) | (with_reducible exact Nat.le_refl _) | omega | (simp only [World.size_alloc, World.size_setCell, World.size_drew, setRow_size]; omega) | (simp; omega) | (simp; done)))) (hb1.mono (by (try simp only [World.size_alloc, World.size_setCell, World.size_drew, setRow_size]); omega)); have hr' := (show Ear.Blk w1 (w.heap.size) _ _ from by (repeat' (first | (show Ear.Blk _ _ _ _; with_reducible assumption) | (with_reducible exact Ear.Blk.new _ _ _) | (with_reducible refine Ear.Blk.new' ?_; (simp only [World.size_alloc, World.size_setCell, World.size_drew, setRow_size]; done)) | (with_reducible apply Ear.Blk.alloc) | (with_reducible apply Ear.Blk.drew) | (with_reducible apply Ear.Blk.setC) | (with_reducible apply Ear.Blk.setC' (e := by omega)) | (with_reducible apply Ear.Blk.rowC (e := by first | rfl | omega)) | (with_reducible apply Ear.Blk.otherRow) | (with_reducible apply Ear.Blk.other) | (with_reducible apply Ear.Blk.below (hb := hb1)) | (show _ ≠ _; (try simp only [World.size_alloc, World.size_setCell, World.size_drew, setRow_size]); omega) | (show _ < _; (try simp only [World.size_alloc, World.size_setCell, World.size_drew, setRow_size]); omega)))); have hx_' := (show Ear.Blk w1 (w.heap.size + 1) _ _ from by (repeat' (first | (show Ear.Blk _ _ _ _; with_reducible assumption) | (with_reducible exact Ear.Blk.new _ _ _) | (with_reducible refine Ear.Blk.new' ?_; (simp only [World.size_alloc, World.size_setCell, World.size_drew, setRow_size]; done)) | (with_reducible apply Ear.Blk.alloc) | (with_reducible apply Ear.Blk.drew) | (with_reducible apply Ear.Blk.setC) | (with_reducible apply Ear.Blk.setC' (e := by omega)) | (with_reducible apply Ear.Blk.rowC (e := by first | rfl | omega)) | (with_reducible apply Ear.Blk.otherRow) | (with_reducible apply Ear.Blk.other) | (with_reducible apply Ear.Blk.below (hb := hb1)) | (show _ ≠ _; (try simp only [World.size_alloc, World.size_setCell, World.size_drew, setRow_size]); omega) | (show _ < _; (try simp only [World.size_alloc, World.size_setCell, World.size_drew, setRow_size]); omega)))); clear hb1; (try clear hr_l); (try clear hr_c); (try clear hr_f); (try clear hr); have hr := hr'; clear hr'; (try simp only [List.set_cons_zero, List.set_cons_succ] at hr); have hr_l := hr.lt; have hr_c := hr.cell; have hr_f := hr.frozen; (try clear hx__l); (try clear hx__c); (try clear hx__f); (try clear hx_); have hx_ := hx_'; clear hx_'; (try simp only [List.set_cons_zero, List.set_cons_succ] at hx_); have hx__l := hx_.lt; have hx__c := hx_.cell; have hx__f := hx_.frozen; (try clear hB hs); have hB := hB'; clear hB'; have hs := hB.size)
    refine Ear.bp_world (fun W => Ear.Blk W w.heap.size 33 (cellsA 2 x4 rd 0#128 none 0 0) ∧ Below w.heap.size w W) ⟨Ear.Blk.renew (by (repeat' (first | (show Ear.Blk _ _ _ _; with_reducible assumption) | (with_reducible exact Ear.Blk.new _ _ _) | (with_reducible refine Ear.Blk.new' ?_; (simp only [World.size_alloc, World.size_setCell, World.size_drew, setRow_size]; done)) | (with_reducible apply Ear.Blk.alloc) | (with_reducible apply Ear.Blk.drew) | (with_reducible apply Ear.Blk.setC) | (with_reducible apply Ear.Blk.setC' (e := by omega)) | (with_reducible apply Ear.Blk.rowC (e := by first | rfl | omega)) | (with_reducible apply Ear.Blk.otherRow) | (with_reducible apply Ear.Blk.other) | (show _ ≠ _; (try simp only [World.size_alloc, World.size_setCell, World.size_drew, setRow_size]); omega) | (show _ < _; (try simp only [World.size_alloc, World.size_setCell, World.size_drew, setRow_size]); omega)))) (by first | (simp only [cellsA, List.set_cons_zero, List.set_cons_succ, hw0]; done) | rfl), by (repeat' (first | (with_reducible exact Below.refl _ _) | (with_reducible assumption) | (show Below 0 _ _; with_reducible refine Below.mono (by assumption) (Nat.zero_le _)) | (with_reducible refine below_setRow ?_ ?_ _) | (with_reducible refine Below.alloc ?_ ?_ _) | (with_reducible refine Below.drew ?_) | (with_reducible refine Below.setCell ?_ ?_ _) | (with_reducible refine Below.frame ?_ _) | (with_reducible exact Nat.le_refl _) | omega | (simp only [World.size_alloc, World.size_setCell, World.size_drew, setRow_size]; omega) | (simp; omega) | (simp; done)))⟩ ?_
    rintro W ⟨hr', hB'⟩
    have hr_c := hr'.cell
    refine bodyPost_ret (v := .tuple #[noteA 2 x4 rd 0#128 none 0 0, .int .i64 76]) (by simp [results, Try.results44, go_sem, hr_c]) rfl ?_
    exact ⟨fun h => by have := HCC.out; omega, fun _ => by rw [HCC.out]; exact ⟨_, _, _, _, _, _, _, rfl, hB'⟩⟩
  have e11 : decide ((l.length : Int) < 10 + M) = false := decide_eq_false (by omega)
  have f11 : decide (l.length < 10 + M) = false := decide_eq_false (by omega)
  replace HD := Lib.hid (by have := HD.out; rw [show heardC l x3 10 M = if withinW (heardK l 10 M) x3 = true then 0 else 74 by unfold heardC; rw [if_neg h11]] at this; exact this)
  repeat (first | (go_at_call 57; (with_reducible refine Calls.mono (value_calls (k := 5) (LiesV.below HL.out (by (repeat' (first | (with_reducible exact Below.refl _ _) | (with_reducible assumption) | (show Below 0 _ _; with_reducible refine Below.mono (by assumption) (Nat.zero_le _)) | (with_reducible refine below_setRow ?_ ?_ _) | (with_reducible refine Below.alloc ?_ ?_ _) | (with_reducible refine Below.drew ?_) | (with_reducible refine Below.setCell ?_ ?_ _) | (with_reducible refine Below.frame ?_ _) | (with_reducible exact Nat.le_refl _) | omega | (simp only [World.size_alloc, World.size_setCell, World.size_drew, setRow_size]; omega) | (simp; omega) | (simp; done))))) HB.out hk10 (by decide)) ?_); rintro e w1 ⟨rfl, hb1⟩; have hB' : Below w.heap.size w w1 := Below.trans (by (repeat' (first | (with_reducible exact Below.refl _ _) | (with_reducible assumption) | (show Below 0 _ _; with_reducible refine Below.mono (by assumption) (Nat.zero_le _)) | (with_reducible refine below_setRow ?_ ?_ _) | (with_reducible refine Below.alloc ?_ ?_ _) | (with_reducible refine Below.drew ?_) | (with_reducible refine Below.setCell ?_ ?_ _) | (with_reducible refine Below.frame ?_ _) | (with_reducible exact Nat.le_refl _) | omega | (simp only [World.size_alloc, World.size_setCell, World.size_drew, setRow_size]; omega) | (simp; omega) | (simp; done)))) (hb1.mono (by (try simp only [World.size_alloc, World.size_setCell, World.size_drew, setRow_size]); omega)); have hr' := (show Ear.Blk w1 (w.heap.size) _ _ from by (repeat' (first | (show Ear.Blk _ _ _ _; with_reducible assumption) | (with_reducible exact Ear.Blk.new _ _ _) | (with_reducible refine Ear.Blk.new' ?_; (simp only [World.size_alloc, World.size_setCell, World.size_drew, setRow_size]; done)) | (with_reducible apply Ear.Blk.alloc) | (with_reducible apply Ear.Blk.drew) | (with_reducible apply Ear.Blk.setC) | (with_reducible apply Ear.Blk.setC' (e := by omega)) | (with_reducible apply Ear.Blk.rowC (e := by first | rfl | omega)) | (with_reducible apply Ear.Blk.otherRow) | (with_reducible apply Ear.Blk.other) | (with_reducible apply Ear.Blk.below (hb := hb1)) | (show _ ≠ _; (try simp only [World.size_alloc, World.size_setCell, World.size_drew, setRow_size]); omega) | (show _ < _; (try simp only [World.size_alloc, World.size_setCell, World.size_drew, setRow_size]); omega)))); have hx_' := (show Ear.Blk w1 (w.heap.size + 1) _ _ from by (repeat' (first | (show Ear.Blk _ _ _ _; with_reducible assumption) | (with_reducible exact Ear.Blk.new _ _ _) | (with_reducible refine Ear.Blk.new' ?_; (simp only [World.size_alloc, World.size_setCell, World.size_drew, setRow_size]; done)) | (with_reducible apply Ear.Blk.alloc) | (with_reducible apply Ear.Blk.drew) | (with_reducible apply Ear.Blk.setC) | (with_reducible apply Ear.Blk.setC' (e := by omega)) | (with_reducible apply Ear.Blk.rowC (e := by first | rfl | omega)) | (with_reducible apply Ear.Blk.otherRow) | (with_reducible apply Ear.Blk.other) | (with_reducible apply Ear.Blk.below (hb := hb1)) | (show _ ≠ _; (try simp only [World.size_alloc, World.size_setCell, World.size_drew, setRow_size]); omega) | (show _ < _; (try simp only [World.size_alloc, World.size_setCell, World.size_drew, setRow_size]); omega)))); clear hb1; (try clear hr_l); (try clear hr_c); (try clear hr_f); (try clear hr); have hr := hr'; clear hr'; (try simp only [List.set_cons_zero, List.set_cons_succ] at hr); have hr_l := hr.lt; have hr_c := hr.cell; have hr_f := hr.frozen; (try clear hx__l); (try clear hx__c); (try clear hx__f); (try clear hx_); have hx_ := hx_'; clear hx_'; (try simp only [List.set_cons_zero, List.set_cons_succ] at hx_); have hx__l := hx_.lt; have hx__c := hx_.cell; have hx__f := hx_.frozen; (try clear hB hs); have hB := hB'; clear hB'; have hs := hB.size) | go_values | go_skip | go_guarded | go_step | go_upon | go_back)
  simp only []
  repeat (first | go_values | go_skip | go_guarded | go_step | go_upon | go_back)
  refine Ear.wp_world (Ear.Sh w.heap.size w [(w.heap.size, _, _), (w.heap.size + 1, _, _)]) (.cons (by (repeat' (first | (show Ear.Blk _ _ _ _; with_reducible assumption) | (with_reducible exact Ear.Blk.new _ _ _) | (with_reducible refine Ear.Blk.new' ?_; (simp only [World.size_alloc, World.size_setCell, World.size_drew, setRow_size]; done)) | (with_reducible apply Ear.Blk.alloc) | (with_reducible apply Ear.Blk.drew) | (with_reducible apply Ear.Blk.setC) | (with_reducible apply Ear.Blk.setC' (e := by omega)) | (with_reducible apply Ear.Blk.rowC (e := by first | rfl | omega)) | (with_reducible apply Ear.Blk.otherRow) | (with_reducible apply Ear.Blk.other) | (show _ ≠ _; (try simp only [World.size_alloc, World.size_setCell, World.size_drew, setRow_size]); omega) | (show _ < _; (try simp only [World.size_alloc, World.size_setCell, World.size_drew, setRow_size]); omega)))) (.cons (by (repeat' (first | (show Ear.Blk _ _ _ _; with_reducible assumption) | (with_reducible exact Ear.Blk.new _ _ _) | (with_reducible refine Ear.Blk.new' ?_; (simp only [World.size_alloc, World.size_setCell, World.size_drew, setRow_size]; done)) | (with_reducible apply Ear.Blk.alloc) | (with_reducible apply Ear.Blk.drew) | (with_reducible apply Ear.Blk.setC) | (with_reducible apply Ear.Blk.setC' (e := by omega)) | (with_reducible apply Ear.Blk.rowC (e := by first | rfl | omega)) | (with_reducible apply Ear.Blk.otherRow) | (with_reducible apply Ear.Blk.other) | (show _ ≠ _; (try simp only [World.size_alloc, World.size_setCell, World.size_drew, setRow_size]); omega) | (show _ < _; (try simp only [World.size_alloc, World.size_setCell, World.size_drew, setRow_size]); omega)))) (.nil (by (repeat' (first | (with_reducible exact Below.refl _ _) | (with_reducible assumption) | (show Below 0 _ _; with_reducible refine Below.mono (by assumption) (Nat.zero_le _)) | (with_reducible refine below_setRow ?_ ?_ _) | (with_reducible refine Below.alloc ?_ ?_ _) | (with_reducible refine Below.drew ?_) | (with_reducible refine Below.setCell ?_ ?_ _) | (with_reducible refine Below.frame ?_ _) | (with_reducible exact Nat.le_refl _) | omega | (simp only [World.size_alloc, World.size_setCell, World.size_drew, setRow_size]; omega) | (simp; omega) | (simp; done))))))) ?_; (try clear hr_l); (try clear hr_c); (try clear hr_f); (try clear hr); (try clear hx__l); (try clear hx__c); (try clear hx__f); (try clear hx_); (try clear hB hs); rintro w8 ⟨hr, hx_, hB⟩; replace hB : Below w.heap.size w w8 := hB; have hs := hB.size; (try simp only [List.set_cons_zero, List.set_cons_succ] at hr); (try simp only [List.set_cons_zero, List.set_cons_succ] at hx_); have hr_l := hr.lt; have hr_c := hr.cell; have hr_f := hr.frozen; have hx__l := hx_.lt; have hx__c := hx_.cell; have hx__f := hx_.frozen
  have hr0 := hr
  have hx0 := hx_
  have hB0 := hB
  clear hr hx_ hB hs e11 f11 hr_l hr_c hr_f hx__l hx__c hx__f
  go_loopw [9] (fun i_ wr => ∃ j : Nat, j ≤ 8 * M ∧ i_ = .int .i64 j ∧ Ear.Blk wr (w.heap.size + 1) 33 [.int .i64 2, .int .i64 x4, .int .i64 rd, .int .u32 (Ear.wd (low (heardK l 10 M) j) 0), .int .u32 (Ear.wd (low (heardK l 10 M) j) 1), .int .u32 (Ear.wd (low (heardK l 10 M) j) 2), .int .u32 (Ear.wd (low (heardK l 10 M) j) 3), .slice none 0 0] ∧ Ear.Blk wr w.heap.size 33 [.int .i64 0, .int .i64 0, .int .i64 0, .int .u32 0, .int .u32 0, .int .u32 0, .int .u32 0, .slice none 0 0] ∧ Hid (∀ t, t < j → (heardK l 10 M).getLsbD t = true → (t : Int) < x3) ∧ Below w.heap.size w wr) (fun i_ _ => 8 * M - (intOf i_).toNat)
  case atStart => exact ⟨0, by omega, rfl, by rw [low_zero]; simp only [hw0]; exact hx0, hr0, Lib.hid (fun t ht _ => absurd ht (Nat.not_lt_zero t)), hB0⟩
  case round =>
    clear hr0 hx0 hB0
    obtain ⟨j, hj, rfl, hx_, hr, HW, hB⟩ := hrel
    have hs := hB.size
    have hx__l := hx_.lt
    have hx__c := hx_.cell
    have hx__f := hx_.frozen
    have hr_l := hr.lt
    have hr_c := hr.cell
    have hr_f := hr.frozen
    by_cases hlt : j < 8 * M
    · obtain ⟨a7, x0', x1'⟩ := read_at HL.out HB.out (10 + j / 8) (by omega)
      have hi0 : 10 + j / 8 < l.length := by omega
      generalize hxx : l.getD (10 + j / 8) 0 = x at a7 x0' x1'
      have c7 : wr.cell? ⟨B, o + (10 + j / 8), none⟩ = some (.int .u8 x) := (hB.cell (p := ⟨B, o + (10 + j / 8), none⟩) hBl).trans a7
      obtain ⟨d, hd⟩ : ∃ d, (heardK l 10 M).getLsbD j = d := ⟨_, rfl⟩
      have hbit : (Go.bits .and .u8 (x / 2 ^ (j % 8)) 1 == 1) = d := by
        rw [shr_bit x0' x1' (j % 8) (by omega), ← hd, heardK_bit HB.out 10 M j (by omega), hxx, decide_eq_true (by omega), Bool.true_and]
      have HBI := Lib.hid hd
      clear hxx hd a0 a1 a2 a3 a4 a7
      have hj104 : j < 104 := by omega
      have e12 : decide ((j : Int) < 8 * (M : Int)) = true := decide_eq_true (by omega)
      cases d with
      | false =>
        have HLN := Lib.hid (low_no HBI.out)
        have HW' := Lib.hid (show ∀ t, t < j + 1 → (heardK l 10 M).getLsbD t = true → (t : Int) < x3 from fun t ht h => by
          by_cases e : t = j
          · subst e; rw [HBI.out] at h; cases h
          · exact HW.out t (by omega) h)
        go_wp2
        go_roundw
        case rel => exact ⟨j + 1, by omega, by go_num, by rw [HLN.out]; exact hx_, hr, HW', hB⟩
        case measure => simp [intOf]; omega
      | true =>
        by_cases hjn : x3 ≤ (j : Int)
        · have e13 : decide (x3 ≤ (j : Int)) = true := decide_eq_true hjn
          have HCC := Lib.hid (show c = 74 from by have := HD.out; rw [not_within h2 HBI.out hjn, if_neg (by decide : ¬ (false = true)), if_neg (by decide : ¬ ((74 : Int) = 0))] at this; exact this.symm)
          go_wp2
          refine Ear.bp_world (fun W => Ear.Blk W w.heap.size 33 (cellsA 2 x4 rd (low (heardK l 10 M) j) none 0 0) ∧ Below w.heap.size w W) ⟨Ear.Blk.renew (by (repeat' (first | (show Ear.Blk _ _ _ _; with_reducible assumption) | (with_reducible exact Ear.Blk.new _ _ _) | (with_reducible refine Ear.Blk.new' ?_; (simp only [World.size_alloc, World.size_setCell, World.size_drew, setRow_size]; done)) | (with_reducible apply Ear.Blk.alloc) | (with_reducible apply Ear.Blk.drew) | (with_reducible apply Ear.Blk.setC) | (with_reducible apply Ear.Blk.setC' (e := by omega)) | (with_reducible apply Ear.Blk.rowC (e := by first | rfl | omega)) | (with_reducible apply Ear.Blk.otherRow) | (with_reducible apply Ear.Blk.other) | (show _ ≠ _; (try simp only [World.size_alloc, World.size_setCell, World.size_drew, setRow_size]); omega) | (show _ < _; (try simp only [World.size_alloc, World.size_setCell, World.size_drew, setRow_size]); omega)))) (by first | (simp only [cellsA, List.set_cons_zero, List.set_cons_succ, hw0]; done) | rfl), by (repeat' (first | (with_reducible exact Below.refl _ _) | (with_reducible assumption) | (show Below 0 _ _; with_reducible refine Below.mono (by assumption) (Nat.zero_le _)) | (with_reducible refine below_setRow ?_ ?_ _) | (with_reducible refine Below.alloc ?_ ?_ _) | (with_reducible refine Below.drew ?_) | (with_reducible refine Below.setCell ?_ ?_ _) | (with_reducible refine Below.frame ?_ _) | (with_reducible exact Nat.le_refl _) | omega | (simp only [World.size_alloc, World.size_setCell, World.size_drew, setRow_size]; omega) | (simp; omega) | (simp; done)))⟩ ?_
          rintro W ⟨hr', hB'⟩
          have hr_c := hr'.cell
          refine bodyPost_ret (v := .tuple #[noteA 2 x4 rd (low (heardK l 10 M) j) none 0 0, .int .i64 74]) (by simp [results, Try.results44, go_sem, hr_c]) rfl ?_
          exact ⟨fun h => by have := HCC.out; omega, fun _ => by rw [HCC.out]; exact ⟨_, _, _, _, _, _, _, rfl, hB'⟩⟩
        · have e13 : decide (x3 ≤ (j : Int)) = false := decide_eq_false hjn
          have hj100 : j < 100 := by omega
          have HLY := Lib.hid (low_yes HBI.out (by omega : j < 128))
          have HLC := Lib.hid (low_clean (heardK l 10 M) (i := j) (by omega))
          have HW' := Lib.hid (show ∀ t, t < j + 1 → (heardK l 10 M).getLsbD t = true → (t : Int) < x3 from fun t ht h => by
            by_cases e : t = j
            · subst e; omega
            · exact HW.out t (by omega) h)
          repeat (first | (go_at_call 58; (with_reducible refine Calls.mono (RPut_calls (low (heardK l 10 M) j) j hj100 HLC.out _) ?_); rintro e w5 ⟨rfl, hb5⟩; have hB' : Below w.heap.size w w5 := Below.trans (by (repeat' (first | (with_reducible exact Below.refl _ _) | (with_reducible assumption) | (show Below 0 _ _; with_reducible refine Below.mono (by assumption) (Nat.zero_le _)) | (with_reducible refine below_setRow ?_ ?_ _) | (with_reducible refine Below.alloc ?_ ?_ _) | (with_reducible refine Below.drew ?_) | (with_reducible refine Below.setCell ?_ ?_ _) | (with_reducible refine Below.frame ?_ _) | (with_reducible exact Nat.le_refl _) | omega | (simp only [World.size_alloc, World.size_setCell, World.size_drew, setRow_size]; omega) | (simp; omega) | (simp; done)))) (hb5.mono (by (try simp only [World.size_alloc, World.size_setCell, World.size_drew, setRow_size]); omega)); have hr' := (show Ear.Blk w5 (w.heap.size) _ _ from by (repeat' (first | (show Ear.Blk _ _ _ _; with_reducible assumption) | (with_reducible exact Ear.Blk.new _ _ _) | (with_reducible refine Ear.Blk.new' ?_; (simp only [World.size_alloc, World.size_setCell, World.size_drew, setRow_size]; done)) | (with_reducible apply Ear.Blk.alloc) | (with_reducible apply Ear.Blk.drew) | (with_reducible apply Ear.Blk.setC) | (with_reducible apply Ear.Blk.setC' (e := by omega)) | (with_reducible apply Ear.Blk.rowC (e := by first | rfl | omega)) | (with_reducible apply Ear.Blk.otherRow) | (with_reducible apply Ear.Blk.other) | (with_reducible apply Ear.Blk.below (hb := hb5)) | (show _ ≠ _; (try simp only [World.size_alloc, World.size_setCell, World.size_drew, setRow_size]); omega) | (show _ < _; (try simp only [World.size_alloc, World.size_setCell, World.size_drew, setRow_size]); omega)))); have hx_' := (show Ear.Blk w5 (w.heap.size + 1) _ _ from by (repeat' (first | (show Ear.Blk _ _ _ _; with_reducible assumption) | (with_reducible exact Ear.Blk.new _ _ _) | (with_reducible refine Ear.Blk.new' ?_; (simp only [World.size_alloc, World.size_setCell, World.size_drew, setRow_size]; done)) | (with_reducible apply Ear.Blk.alloc) | (with_reducible apply Ear.Blk.drew) | (with_reducible apply Ear.Blk.setC) | (with_reducible apply Ear.Blk.setC' (e := by omega)) | (with_reducible apply Ear.Blk.rowC (e := by first | rfl | omega)) | (with_reducible apply Ear.Blk.otherRow) | (with_reducible apply Ear.Blk.other) | (with_reducible apply Ear.Blk.below (hb := hb5)) | (show _ ≠ _; (try simp only [World.size_alloc, World.size_setCell, World.size_drew, setRow_size]); omega) | (show _ < _; (try simp only [World.size_alloc, World.size_setCell, World.size_drew, setRow_size]); omega)))); clear hb5; (try clear hr_l); (try clear hr_c); (try clear hr_f); (try clear hr); have hr := hr'; clear hr'; (try simp only [List.set_cons_zero, List.set_cons_succ] at hr); have hr_l := hr.lt; have hr_c := hr.cell; have hr_f := hr.frozen; (try clear hx__l); (try clear hx__c); (try clear hx__f); (try clear hx_); have hx_ := hx_'; clear hx_'; (try simp only [List.set_cons_zero, List.set_cons_succ] at hx_); have hx__l := hx_.lt; have hx__c := hx_.cell; have hx__f := hx_.frozen; (try clear hB hs); have hB := hB'; clear hB'; have hs := hB.size) | go_values | go_skip | go_guarded | go_step | go_upon | go_back)
          simp only []
          repeat (first | go_values | go_skip | go_guarded | go_step | go_upon | go_back)
          go_roundw
          case rel => exact ⟨j + 1, by omega, by go_num, by rw [HLY.out]; exact Ear.Blk.renew (Ear.Blk.setC (Ear.Blk.setC (Ear.Blk.setC (Ear.Blk.setC hx_)))) rfl, by (repeat' (first | (show Ear.Blk _ _ _ _; with_reducible assumption) | (with_reducible exact Ear.Blk.new _ _ _) | (with_reducible refine Ear.Blk.new' ?_; (simp only [World.size_alloc, World.size_setCell, World.size_drew, setRow_size]; done)) | (with_reducible apply Ear.Blk.alloc) | (with_reducible apply Ear.Blk.drew) | (with_reducible apply Ear.Blk.setC) | (with_reducible apply Ear.Blk.setC' (e := by omega)) | (with_reducible apply Ear.Blk.rowC (e := by first | rfl | omega)) | (with_reducible apply Ear.Blk.otherRow) | (with_reducible apply Ear.Blk.other) | (show _ ≠ _; (try simp only [World.size_alloc, World.size_setCell, World.size_drew, setRow_size]); omega) | (show _ < _; (try simp only [World.size_alloc, World.size_setCell, World.size_drew, setRow_size]); omega))), HW', by (repeat' (first | (with_reducible exact Below.refl _ _) | (with_reducible assumption) | (show Below 0 _ _; with_reducible refine Below.mono (by assumption) (Nat.zero_le _)) | (with_reducible refine below_setRow ?_ ?_ _) | (with_reducible refine Below.alloc ?_ ?_ _) | (with_reducible refine Below.drew ?_) | (with_reducible refine Below.setCell ?_ ?_ _) | (with_reducible refine Below.frame ?_ _) | (with_reducible exact Nat.le_refl _) | omega | (simp only [World.size_alloc, World.size_setCell, World.size_drew, setRow_size]; omega) | (simp; omega) | (simp; done)))⟩
          case measure => simp [intOf]; omega
    · have him' : j = 8 * M := by omega
      have e12 : decide ((j : Int) < 8 * (M : Int)) = false := decide_eq_false (by omega)
      have HLA := Lib.hid (show low (heardK l 10 M) j = heardK l 10 M from low_all (fun t ht => by
        by_cases h128 : t < 128
        · rw [heardK_bit HB.out 10 M t h128] at ht
          have := of_decide_eq_true (Bool.and_eq_true_iff.1 ht).1
          omega
        · rw [BitVec.getLsbD_of_ge _ _ (by omega)] at ht; cases ht))
      have HWI := Lib.hid (show withinW (heardK l 10 M) x3 = true from is_within h1 h2 (fun t ht => by
        by_cases h128 : t < 128
        · have h3 := ht
          rw [heardK_bit HB.out 10 M t h128] at h3
          have := of_decide_eq_true (Bool.and_eq_true_iff.1 h3).1
          exact HW.out t (by omega) ht
        · rw [BitVec.getLsbD_of_ge _ _ (by omega)] at ht; cases ht))
      exact absurd ⟨by omega, by rw [HRD.out]; exact HSR.out, by rw [HM.out]; omega, by rw [HM.out]; exact HWI.out⟩ HG.out
end Go.Proofs.Ytklfkfnckdeifaa
end
section
namespace Go.Proofs.Ytklfkfnckdeifaa
set_option linter.unusedSimpArgs false
set_option linter.unusedVariables false
open Go.RowKit
attribute [local irreducible] Ear.Pl.wpQ Ear.Pa.wpQ Ear.Fe.wpQ Ear.Fa.wpQ Ear.wd withinW numK heardK sumV newsK ntK newsC heardC manyK decS decN decH decR atK bytesN low
set_option maxRecDepth 100000 in
set_option maxHeartbeats 2000000 in
theorem read_zero {n : Int} {base : Option Addr} {cap : Nat} {w : World} :
    Calls Try.prog 44 #[.slice base 0 cap, .int .i64 n] w (RdPost [] n 76 w) := by
  have hw0 := Ear.wd_zero
  go_enter Try.func44, Try.ntmps44
  go_wp2
  refine Ear.bp_world (fun W => Ear.Blk W w.heap.size 33 (cellsA 0 0 0 0#128 none 0 0) ∧ Below w.heap.size w W) ⟨Ear.Blk.renew (by (repeat' (first | (show Ear.Blk _ _ _ _; with_reducible assumption) | (with_reducible exact Ear.Blk.new _ _ _) | (with_reducible refine Ear.Blk.new' ?_; (simp only [World.size_alloc, World.size_setCell, World.size_drew, setRow_size]; done)) | (with_reducible apply Ear.Blk.alloc) | (with_reducible apply Ear.Blk.drew) | (with_reducible apply Ear.Blk.setC) | (with_reducible apply Ear.Blk.setC' (e := by omega)) | (with_reducible apply Ear.Blk.rowC (e := by first | rfl | omega)) | (with_reducible apply Ear.Blk.otherRow) | (with_reducible apply Ear.Blk.other) | (show _ ≠ _; (try simp only [World.size_alloc, World.size_setCell, World.size_drew, setRow_size]); omega) | (show _ < _; (try simp only [World.size_alloc, World.size_setCell, World.size_drew, setRow_size]); omega)))) (by first | (simp only [cellsA, List.set_cons_zero, List.set_cons_succ, hw0]; done) | rfl), by (repeat' (first | (with_reducible exact Below.refl _ _) | (with_reducible assumption) | (show Below 0 _ _; with_reducible refine Below.mono (by assumption) (Nat.zero_le _)) | (with_reducible refine below_setRow ?_ ?_ _) | (with_reducible refine Below.alloc ?_ ?_ _) | (with_reducible refine Below.drew ?_) | (with_reducible refine Below.setCell ?_ ?_ _) | (with_reducible refine Below.frame ?_ _) | (with_reducible exact Nat.le_refl _) | omega | (simp only [World.size_alloc, World.size_setCell, World.size_drew, setRow_size]; omega) | (simp; omega) | (simp; done)))⟩ ?_
  rintro W ⟨hr', hB'⟩
  have hr_c := hr'.cell
  refine bodyPost_ret (v := .tuple #[noteA 0 0 0 0#128 none 0 0, .int .i64 76]) (by simp [results, Try.results44, go_sem, hr_c]) rfl ?_
  exact ⟨fun h => absurd h (by decide), fun _ => ⟨_, _, _, _, _, _, _, rfl, hB'⟩⟩
theorem read_calls {w : World} {base : Option Addr} {cap : Nat} {l : List Int} {n c : Int} (hl : LiesV (bytesV l) base w) (hb : byteOk l) (h1 : 1 ≤ n) (h2 : n ≤ 100) (h5 : l.length ≤ 1024) (hcap : l.length ≤ cap) (hc : decC l n = c) :
    Calls Try.prog 44 #[.slice base l.length cap, .int .i64 n] w (RdPost l n c w) := by
  rcases Nat.eq_zero_or_pos l.length with h0 | h0
  · obtain rfl : l = [] := List.length_eq_zero_iff.1 h0
    have h76 : decC [] n = 76 := by unfold decC; rw [if_pos (by simp)]
    rw [h76] at hc
    subst hc
    exact read_zero
  · obtain ⟨B, o, rfl, hB, -⟩ := hl 0 (by rw [bytesV_len]; omega)
    by_cases hx : 5 ≤ l.length ∧ l.getD 0 0 = 101 ∧ l.getD 1 0 = 115 ∧ (1 ≤ l.getD 2 0 ∧ l.getD 2 0 ≤ 3) ∧ l.getD 3 0 = n ∧ l.getD 4 0 < n
    · obtain ⟨y1, y2, y3, y4, y5, y6⟩ := hx
      rcases (by omega : l.getD 2 0 = 1 ∨ l.getD 2 0 = 2 ∨ l.getD 2 0 = 3) with hk | hk | hk
      · exact read_1 hl hb h1 h2 h5 hcap hc ⟨y1, y2, y3, y5, y6⟩ hk
      · by_cases hg : 10 ≤ l.length ∧ (1 ≤ numK l 5 5 ∧ numK l 5 5 ≤ 1099511627775) ∧ 10 + bytesN n ≤ l.length ∧ withinW (heardK l 10 (bytesN n)) n = true
        · exact read_2g hl hb h1 h2 h5 hcap hc ⟨y1, y2, y3, y5, y6⟩ hk hg
        · exact read_2 hl hb h1 h2 h5 hcap hc ⟨y1, y2, y3, y5, y6⟩ hk hg
      · exact read_3 hl hb h1 h2 h5 hcap hc ⟨y1, y2, y3, y5, y6⟩ hk
    · exact read_pre hl hb h1 h2 h5 hcap hc hx
theorem read_no {w : World} {base : Option Addr} {cap : Nat} {l : List Int} {n c : Int} (hl : LiesV (bytesV l) base w) (hb : byteOk l) (h1 : 1 ≤ n) (h2 : n ≤ 100) (h5 : l.length ≤ 1024) (hcap : l.length ≤ cap) (hc : decC l n = c) (h0 : c ≠ 0) :
    Calls Try.prog 44 #[.slice base l.length cap, .int .i64 n] w (badP w c) := (read_calls hl hb h1 h2 h5 hcap hc).mono fun e w' he => he.bad h0
theorem read_ok {w : World} {base : Option Addr} {cap : Nat} {l : List Int} {n k f r : Int} {h : BitVec 128} {L : List Nt} (hl : LiesV (bytesV l) base w) (hb : byteOk l) (h1 : 1 ≤ n) (h2 : n ≤ 100) (h5 : l.length ≤ 1024) (hcap : l.length ≤ cap) (hc : decC l n = 0) (hk : l.getD 2 0 = k) (hf : l.getD 4 0 = f) (hr : roundD l = r) (hh : heardD l n = h) (hL : newsD l n = L) :
    Calls Try.prog 44 #[.slice base l.length cap, .int .i64 n] w fun e w' => ∃ nb nc, e = .returned (.tuple #[noteA k f r h nb L.length nc, .int .i64 0]) ∧ w'.ownsRow w.heap.size 84 3 (.slice nb L.length nc) L.length (ntsV L) ∧ Below w.heap.size w w' := (read_calls hl hb h1 h2 h5 hcap hc).mono fun e w' he => by
  obtain ⟨nb, nc, h1, h2, h3⟩ := he.ok rfl
  refine ⟨nb, nc, ?_, by rw [← hL, newsD_len]; exact h2, h3⟩
  rw [h1, hk, hf, hr, hh, ← hL, newsD_len]
set_option maxRecDepth 100000 in
set_option maxHeartbeats 4000000 in
/-- The document refuses. -/
theorem RDecode_no {l : List Int} {n c : Int} {base : Option Addr} {cap : Nat} {w : World} (hb : byteOk l) (hl : LiesV (bytesV l) base w) (hcap : l.length ≤ cap) (hc : decodeC l n = c) (h0 : c ≠ 0) :
    Calls Try.prog 25 #[.slice base l.length cap, .int .i64 n] w fun e w' => e = .returned (.tuple #[.agg #[.int .i64 0, .int .i64 0, .int .i64 0, .int .u32 0, .int .u32 0, .int .u32 0, .int .u32 0, .slice none 0 0], .int .i64 c]) ∧ Below w.heap.size w w' := by
  have HB := Lib.hid hb
  have HL := Lib.hid hl
  have hc0 : (c == 0) = false := beq_eq_false_iff_ne.2 h0
  have hc1 : (c != 0) = true := bne_iff_ne.2 h0
  unfold decodeC at hc
  clear hb hl
  by_cases hn : n < 1
  · rw [if_pos (.inl hn)] at hc
    subst hc
    have d1 : decide (n < 1) = true := decide_eq_true hn
    go_enter Try.func25, Try.ntmps25
    go_wp2
    refine Ear.bp_world (Ear.Sh w.heap.size w [(w.heap.size, _, _)]) (.cons (by (repeat' (first | (show Ear.Blk _ _ _ _; with_reducible assumption) | (with_reducible exact Ear.Blk.new _ _ _) | (with_reducible refine Ear.Blk.new' ?_; (simp only [World.size_alloc, World.size_setCell, World.size_drew, setRow_size]; done)) | (with_reducible apply Ear.Blk.alloc) | (with_reducible apply Ear.Blk.drew) | (with_reducible apply Ear.Blk.setC) | (with_reducible apply Ear.Blk.setC' (e := by omega)) | (with_reducible apply Ear.Blk.rowC (e := by first | rfl | omega)) | (with_reducible apply Ear.Blk.otherRow) | (with_reducible apply Ear.Blk.other) | (show _ ≠ _; (try simp only [World.size_alloc, World.size_setCell, World.size_drew, setRow_size]); omega) | (show _ < _; (try simp only [World.size_alloc, World.size_setCell, World.size_drew, setRow_size]); omega)))) (.nil (by (repeat' (first | (with_reducible exact Below.refl _ _) | (with_reducible assumption) | (show Below 0 _ _; with_reducible refine Below.mono (by assumption) (Nat.zero_le _)) | (with_reducible refine below_setRow ?_ ?_ _) | (with_reducible refine Below.alloc ?_ ?_ _) | (with_reducible refine Below.drew ?_) | (with_reducible refine Below.setCell ?_ ?_ _) | (with_reducible refine Below.frame ?_ _) | (with_reducible exact Nat.le_refl _) | omega | (simp only [World.size_alloc, World.size_setCell, World.size_drew, setRow_size]; omega) | (simp; omega) | (simp; done)))))) ?_; (try clear hx_l); (try clear hx_c); (try clear hx_f); (try clear hx); (try clear hB hs); rintro w2 ⟨hx, hB⟩; replace hB : Below w.heap.size w w2 := hB; have hs := hB.size; (try simp only [List.set_cons_zero, List.set_cons_succ] at hx); have hx_l := hx.lt; have hx_c := hx.cell; have hx_f := hx.frozen
    refine bodyPost_ret (v := .tuple #[.agg #[.int .i64 0, .int .i64 0, .int .i64 0, .int .u32 0, .int .u32 0, .int .u32 0, .int .u32 0, .slice none 0 0], .int .i64 1]) (by simp [results, Try.results25, go_sem, *]) rfl ⟨rfl, hB⟩
  have d1 : decide (n < 1) = false := decide_eq_false hn
  by_cases hn2 : 100 < n
  · rw [if_pos (.inr hn2)] at hc
    subst hc
    have d2 : decide (100 < n) = true := decide_eq_true hn2
    go_enter Try.func25, Try.ntmps25
    go_wp2
    refine Ear.bp_world (Ear.Sh w.heap.size w [(w.heap.size, _, _)]) (.cons (by (repeat' (first | (show Ear.Blk _ _ _ _; with_reducible assumption) | (with_reducible exact Ear.Blk.new _ _ _) | (with_reducible refine Ear.Blk.new' ?_; (simp only [World.size_alloc, World.size_setCell, World.size_drew, setRow_size]; done)) | (with_reducible apply Ear.Blk.alloc) | (with_reducible apply Ear.Blk.drew) | (with_reducible apply Ear.Blk.setC) | (with_reducible apply Ear.Blk.setC' (e := by omega)) | (with_reducible apply Ear.Blk.rowC (e := by first | rfl | omega)) | (with_reducible apply Ear.Blk.otherRow) | (with_reducible apply Ear.Blk.other) | (show _ ≠ _; (try simp only [World.size_alloc, World.size_setCell, World.size_drew, setRow_size]); omega) | (show _ < _; (try simp only [World.size_alloc, World.size_setCell, World.size_drew, setRow_size]); omega)))) (.nil (by (repeat' (first | (with_reducible exact Below.refl _ _) | (with_reducible assumption) | (show Below 0 _ _; with_reducible refine Below.mono (by assumption) (Nat.zero_le _)) | (with_reducible refine below_setRow ?_ ?_ _) | (with_reducible refine Below.alloc ?_ ?_ _) | (with_reducible refine Below.drew ?_) | (with_reducible refine Below.setCell ?_ ?_ _) | (with_reducible refine Below.frame ?_ _) | (with_reducible exact Nat.le_refl _) | omega | (simp only [World.size_alloc, World.size_setCell, World.size_drew, setRow_size]; omega) | (simp; omega) | (simp; done)))))) ?_; (try clear hx_l); (try clear hx_c); (try clear hx_f); (try clear hx); (try clear hB hs); rintro w2 ⟨hx, hB⟩; replace hB : Below w.heap.size w w2 := hB; have hs := hB.size; (try simp only [List.set_cons_zero, List.set_cons_succ] at hx); have hx_l := hx.lt; have hx_c := hx.cell; have hx_f := hx.frozen
    refine bodyPost_ret (v := .tuple #[.agg #[.int .i64 0, .int .i64 0, .int .i64 0, .int .u32 0, .int .u32 0, .int .u32 0, .int .u32 0, .slice none 0 0], .int .i64 1]) (by simp [results, Try.results25, go_sem, *]) rfl ⟨rfl, hB⟩
  have d2 : decide (100 < n) = false := decide_eq_false hn2
  rw [if_neg (by omega)] at hc
  by_cases hl : 1024 < l.length
  · rw [if_pos hl] at hc
    subst hc
    have d3 : decide ((1024 : Int) < (l.length : Int)) = true := decide_eq_true (by omega)
    have d4 : decide (1024 < l.length) = true := decide_eq_true (by omega)
    go_enter Try.func25, Try.ntmps25
    go_wp2
    refine Ear.bp_world (Ear.Sh w.heap.size w [(w.heap.size, _, _)]) (.cons (by (repeat' (first | (show Ear.Blk _ _ _ _; with_reducible assumption) | (with_reducible exact Ear.Blk.new _ _ _) | (with_reducible refine Ear.Blk.new' ?_; (simp only [World.size_alloc, World.size_setCell, World.size_drew, setRow_size]; done)) | (with_reducible apply Ear.Blk.alloc) | (with_reducible apply Ear.Blk.drew) | (with_reducible apply Ear.Blk.setC) | (with_reducible apply Ear.Blk.setC' (e := by omega)) | (with_reducible apply Ear.Blk.rowC (e := by first | rfl | omega)) | (with_reducible apply Ear.Blk.otherRow) | (with_reducible apply Ear.Blk.other) | (show _ ≠ _; (try simp only [World.size_alloc, World.size_setCell, World.size_drew, setRow_size]); omega) | (show _ < _; (try simp only [World.size_alloc, World.size_setCell, World.size_drew, setRow_size]); omega)))) (.nil (by (repeat' (first | (with_reducible exact Below.refl _ _) | (with_reducible assumption) | (show Below 0 _ _; with_reducible refine Below.mono (by assumption) (Nat.zero_le _)) | (with_reducible refine below_setRow ?_ ?_ _) | (with_reducible refine Below.alloc ?_ ?_ _) | (with_reducible refine Below.drew ?_) | (with_reducible refine Below.setCell ?_ ?_ _) | (with_reducible refine Below.frame ?_ _) | (with_reducible exact Nat.le_refl _) | omega | (simp only [World.size_alloc, World.size_setCell, World.size_drew, setRow_size]; omega) | (simp; omega) | (simp; done)))))) ?_; (try clear hx_l); (try clear hx_c); (try clear hx_f); (try clear hx); (try clear hB hs); rintro w2 ⟨hx, hB⟩; replace hB : Below w.heap.size w w2 := hB; have hs := hB.size; (try simp only [List.set_cons_zero, List.set_cons_succ] at hx); have hx_l := hx.lt; have hx_c := hx.cell; have hx_f := hx.frozen
    refine bodyPost_ret (v := .tuple #[.agg #[.int .i64 0, .int .i64 0, .int .i64 0, .int .u32 0, .int .u32 0, .int .u32 0, .int .u32 0, .slice none 0 0], .int .i64 2]) (by simp [results, Try.results25, go_sem, *]) rfl ⟨rfl, hB⟩
  rw [if_neg hl] at hc
  have d3 : decide ((1024 : Int) < (l.length : Int)) = false := decide_eq_false (by omega)
  have d4 : decide (1024 < l.length) = false := decide_eq_false (by omega)
  have HC := Lib.hid hc
  have H1 := Lib.hid (show 1 ≤ n by omega)
  have H2 := Lib.hid (show n ≤ 100 by omega)
  have H5 := Lib.hid (show l.length ≤ 1024 by omega)
  clear hc hn hn2 hl
  go_enter Try.func25, Try.ntmps25
  repeat (first | go_values | go_skip | go_guarded | go_step | go_upon | go_back)
  (go_at_call 44; (with_reducible refine Calls.mono (read_no (HL.out.below (by (repeat' (first | (with_reducible exact Below.refl _ _) | (with_reducible assumption) | (show Below 0 _ _; with_reducible refine Below.mono (by assumption) (Nat.zero_le _)) | (with_reducible refine below_setRow ?_ ?_ _) | (with_reducible refine Below.alloc ?_ ?_ _) | (with_reducible refine Below.drew ?_) | (with_reducible refine Below.setCell ?_ ?_ _) | (with_reducible refine Below.frame ?_ _) | (with_reducible exact Nat.le_refl _) | omega | (simp only [World.size_alloc, World.size_setCell, World.size_drew, setRow_size]; omega) | (simp; omega) | (simp; done))))) HB.out H1.out H2.out H5.out hcap HC.out h0) ?_); rintro e w1 ⟨k, f, r, h, nb, m, nc, rfl, hb1⟩; have hB' : Below w.heap.size w w1 := Below.trans (by (repeat' (first | (with_reducible exact Below.refl _ _) | (with_reducible assumption) | (show Below 0 _ _; with_reducible refine Below.mono (by assumption) (Nat.zero_le _)) | (with_reducible refine below_setRow ?_ ?_ _) | (with_reducible refine Below.alloc ?_ ?_ _) | (with_reducible refine Below.drew ?_) | (with_reducible refine Below.setCell ?_ ?_ _) | (with_reducible refine Below.frame ?_ _) | (with_reducible exact Nat.le_refl _) | omega | (simp only [World.size_alloc, World.size_setCell, World.size_drew, setRow_size]; omega) | (simp; omega) | (simp; done)))) (hb1.mono (by (try simp only [World.size_alloc, World.size_setCell, World.size_drew, setRow_size]); omega)); have hx' := (show Ear.Blk w1 (w.heap.size) _ _ from by (repeat' (first | (show Ear.Blk _ _ _ _; with_reducible assumption) | (with_reducible exact Ear.Blk.new _ _ _) | (with_reducible refine Ear.Blk.new' ?_; (simp only [World.size_alloc, World.size_setCell, World.size_drew, setRow_size]; done)) | (with_reducible apply Ear.Blk.alloc) | (with_reducible apply Ear.Blk.drew) | (with_reducible apply Ear.Blk.setC) | (with_reducible apply Ear.Blk.setC' (e := by omega)) | (with_reducible apply Ear.Blk.rowC (e := by first | rfl | omega)) | (with_reducible apply Ear.Blk.otherRow) | (with_reducible apply Ear.Blk.other) | (with_reducible apply Ear.Blk.below (hb := hb1)) | (show _ ≠ _; (try simp only [World.size_alloc, World.size_setCell, World.size_drew, setRow_size]); omega) | (show _ < _; (try simp only [World.size_alloc, World.size_setCell, World.size_drew, setRow_size]); omega)))); clear hb1; (try clear hx_l); (try clear hx_c); (try clear hx_f); (try clear hx); have hx := hx'; clear hx'; (try simp only [List.set_cons_zero, List.set_cons_succ] at hx); have hx_l := hx.lt; have hx_c := hx.cell; have hx_f := hx.frozen; (try clear hB hs); have hB := hB'; clear hB'; have hs := hB.size)
  simp only []
  iterate 24 (first | go_values | go_skip | go_guarded | go_step | go_upon | go_back)
  refine Ear.wp_world (Ear.Sh w.heap.size w [(w.heap.size, _, _)]) (.cons (by (repeat' (first | (show Ear.Blk _ _ _ _; with_reducible assumption) | (with_reducible exact Ear.Blk.new _ _ _) | (with_reducible refine Ear.Blk.new' ?_; (simp only [World.size_alloc, World.size_setCell, World.size_drew, setRow_size]; done)) | (with_reducible apply Ear.Blk.alloc) | (with_reducible apply Ear.Blk.drew) | (with_reducible apply Ear.Blk.setC) | (with_reducible apply Ear.Blk.setC' (e := by omega)) | (with_reducible apply Ear.Blk.rowC (e := by first | rfl | omega)) | (with_reducible apply Ear.Blk.otherRow) | (with_reducible apply Ear.Blk.other) | (show _ ≠ _; (try simp only [World.size_alloc, World.size_setCell, World.size_drew, setRow_size]); omega) | (show _ < _; (try simp only [World.size_alloc, World.size_setCell, World.size_drew, setRow_size]); omega)))) (.nil (by (repeat' (first | (with_reducible exact Below.refl _ _) | (with_reducible assumption) | (show Below 0 _ _; with_reducible refine Below.mono (by assumption) (Nat.zero_le _)) | (with_reducible refine below_setRow ?_ ?_ _) | (with_reducible refine Below.alloc ?_ ?_ _) | (with_reducible refine Below.drew ?_) | (with_reducible refine Below.setCell ?_ ?_ _) | (with_reducible refine Below.frame ?_ _) | (with_reducible exact Nat.le_refl _) | omega | (simp only [World.size_alloc, World.size_setCell, World.size_drew, setRow_size]; omega) | (simp; omega) | (simp; done)))))) ?_; (try clear hx_l); (try clear hx_c); (try clear hx_f); (try clear hx); (try clear hB hs); rintro w3 ⟨hx, hB⟩; replace hB : Below w.heap.size w w3 := hB; have hs := hB.size; (try simp only [List.set_cons_zero, List.set_cons_succ] at hx); have hx_l := hx.lt; have hx_c := hx.cell; have hx_f := hx.frozen
  repeat (first | go_values | go_skip | go_guarded | go_step | go_upon | go_back)
  refine Ear.bp_world (Ear.Sh w.heap.size w [(w.heap.size, _, _)]) (.cons (by (repeat' (first | (show Ear.Blk _ _ _ _; with_reducible assumption) | (with_reducible exact Ear.Blk.new _ _ _) | (with_reducible refine Ear.Blk.new' ?_; (simp only [World.size_alloc, World.size_setCell, World.size_drew, setRow_size]; done)) | (with_reducible apply Ear.Blk.alloc) | (with_reducible apply Ear.Blk.drew) | (with_reducible apply Ear.Blk.setC) | (with_reducible apply Ear.Blk.setC' (e := by omega)) | (with_reducible apply Ear.Blk.rowC (e := by first | rfl | omega)) | (with_reducible apply Ear.Blk.otherRow) | (with_reducible apply Ear.Blk.other) | (show _ ≠ _; (try simp only [World.size_alloc, World.size_setCell, World.size_drew, setRow_size]); omega) | (show _ < _; (try simp only [World.size_alloc, World.size_setCell, World.size_drew, setRow_size]); omega)))) (.nil (by (repeat' (first | (with_reducible exact Below.refl _ _) | (with_reducible assumption) | (show Below 0 _ _; with_reducible refine Below.mono (by assumption) (Nat.zero_le _)) | (with_reducible refine below_setRow ?_ ?_ _) | (with_reducible refine Below.alloc ?_ ?_ _) | (with_reducible refine Below.drew ?_) | (with_reducible refine Below.setCell ?_ ?_ _) | (with_reducible refine Below.frame ?_ _) | (with_reducible exact Nat.le_refl _) | omega | (simp only [World.size_alloc, World.size_setCell, World.size_drew, setRow_size]; omega) | (simp; omega) | (simp; done)))))) ?_; (try clear hx_l); (try clear hx_c); (try clear hx_f); (try clear hx); (try clear hB hs); rintro w2 ⟨hx, hB⟩; replace hB : Below w.heap.size w w2 := hB; have hs := hB.size; (try simp only [List.set_cons_zero, List.set_cons_succ] at hx); have hx_l := hx.lt; have hx_c := hx.cell; have hx_f := hx.frozen
  refine bodyPost_ret (v := .tuple #[.agg #[.int .i64 0, .int .i64 0, .int .i64 0, .int .u32 0, .int .u32 0, .int .u32 0, .int .u32 0, .slice none 0 0], .int .i64 c]) (by simp [results, Try.results25, go_sem, *]) rfl ⟨rfl, hB⟩
set_option maxRecDepth 100000 in
set_option maxHeartbeats 4000000 in
/-- The document takes the bytes. -/
theorem RDecode_ok {l : List Int} {n k f r : Int} {h : BitVec 128} {L : List Nt} {base : Option Addr} {cap : Nat} {w : World} (hb : byteOk l) (hl : LiesV (bytesV l) base w) (hcap : l.length ≤ cap) (hc : decodeC l n = 0) (hk : l.getD 2 0 = k) (hf : l.getD 4 0 = f) (hr : roundD l = r) (hh : heardD l n = h) (hL : newsD l n = L) :
    Calls Try.prog 25 #[.slice base l.length cap, .int .i64 n] w fun e w' => ∃ nb nc, e = .returned (.tuple #[noteA k f r h nb L.length nc, .int .i64 0]) ∧ LiesV (ntsV L) nb w' ∧ Below w.heap.size w w' := by
  have HB := Lib.hid hb
  have HL := Lib.hid hl
  obtain ⟨hn, hlen, -⟩ := decode_ok hc
  unfold decodeC at hc
  rw [if_neg (by omega), if_neg (by omega)] at hc
  have d1 : decide (n < 1) = false := decide_eq_false (by omega)
  have d2 : decide (100 < n) = false := decide_eq_false (by omega)
  have d3 : decide ((1024 : Int) < (l.length : Int)) = false := decide_eq_false (by omega)
  have d4 : decide (1024 < l.length) = false := decide_eq_false (by omega)
  have HC := Lib.hid hc
  have HK := Lib.hid hk
  have HF := Lib.hid hf
  have HR := Lib.hid hr
  have HH := Lib.hid hh
  have HW := Lib.hid hL
  have H1 := Lib.hid hn.1
  have H2 := Lib.hid hn.2
  have H5 := Lib.hid hlen
  clear hb hl hc hn hlen hk hf hr hh hL
  go_enter Try.func25, Try.ntmps25
  repeat (first | go_values | go_skip | go_guarded | go_step | go_upon | go_back)
  (go_at_call 44; (with_reducible refine Calls.mono (read_ok (HL.out.below (by (repeat' (first | (with_reducible exact Below.refl _ _) | (with_reducible assumption) | (show Below 0 _ _; with_reducible refine Below.mono (by assumption) (Nat.zero_le _)) | (with_reducible refine below_setRow ?_ ?_ _) | (with_reducible refine Below.alloc ?_ ?_ _) | (with_reducible refine Below.drew ?_) | (with_reducible refine Below.setCell ?_ ?_ _) | (with_reducible refine Below.frame ?_ _) | (with_reducible exact Nat.le_refl _) | omega | (simp only [World.size_alloc, World.size_setCell, World.size_drew, setRow_size]; omega) | (simp; omega) | (simp; done))))) HB.out H1.out H2.out H5.out hcap HC.out HK.out HF.out HR.out HH.out HW.out) ?_); rintro e w1 ⟨nb, nc, rfl, hl1, hb1⟩; have HN := Lib.hid (owns_base (b' := w.heap.size + 1) hl1 (by (try simp only [World.size_alloc, World.size_setCell, World.size_drew, setRow_size]); omega)); clear hl1; have hB' : Below w.heap.size w w1 := Below.trans (by (repeat' (first | (with_reducible exact Below.refl _ _) | (with_reducible assumption) | (show Below 0 _ _; with_reducible refine Below.mono (by assumption) (Nat.zero_le _)) | (with_reducible refine below_setRow ?_ ?_ _) | (with_reducible refine Below.alloc ?_ ?_ _) | (with_reducible refine Below.drew ?_) | (with_reducible refine Below.setCell ?_ ?_ _) | (with_reducible refine Below.frame ?_ _) | (with_reducible exact Nat.le_refl _) | omega | (simp only [World.size_alloc, World.size_setCell, World.size_drew, setRow_size]; omega) | (simp; omega) | (simp; done)))) (hb1.mono (by (try simp only [World.size_alloc, World.size_setCell, World.size_drew, setRow_size]); omega)); have hx' := (show Ear.Blk w1 (w.heap.size) _ _ from by (repeat' (first | (show Ear.Blk _ _ _ _; with_reducible assumption) | (with_reducible exact Ear.Blk.new _ _ _) | (with_reducible refine Ear.Blk.new' ?_; (simp only [World.size_alloc, World.size_setCell, World.size_drew, setRow_size]; done)) | (with_reducible apply Ear.Blk.alloc) | (with_reducible apply Ear.Blk.drew) | (with_reducible apply Ear.Blk.setC) | (with_reducible apply Ear.Blk.setC' (e := by omega)) | (with_reducible apply Ear.Blk.rowC (e := by first | rfl | omega)) | (with_reducible apply Ear.Blk.otherRow) | (with_reducible apply Ear.Blk.other) | (with_reducible apply Ear.Blk.below (hb := hb1)) | (show _ ≠ _; (try simp only [World.size_alloc, World.size_setCell, World.size_drew, setRow_size]); omega) | (show _ < _; (try simp only [World.size_alloc, World.size_setCell, World.size_drew, setRow_size]); omega)))); clear hb1; (try clear hx_l); (try clear hx_c); (try clear hx_f); (try clear hx); have hx := hx'; clear hx'; (try simp only [List.set_cons_zero, List.set_cons_succ] at hx); have hx_l := hx.lt; have hx_c := hx.cell; have hx_f := hx.frozen; (try clear hB hs); have hB := hB'; clear hB'; have hs := hB.size)
  simp only []
  iterate 24 (first | go_values | go_skip | go_guarded | go_step | go_upon | go_back)
  refine Ear.wp_world (Ear.AndW (Ear.Sh w.heap.size w [(w.heap.size, _, _), (w1.heap.size, _, _)]) (fun W => W.ownsRow (w.heap.size + 1) 84 3 (.slice nb L.length nc) L.length (ntsV L))) ⟨(.cons (by (repeat' (first | (show Ear.Blk _ _ _ _; with_reducible assumption) | (with_reducible exact Ear.Blk.new _ _ _) | (with_reducible refine Ear.Blk.new' ?_; (simp only [World.size_alloc, World.size_setCell, World.size_drew, setRow_size]; done)) | (with_reducible apply Ear.Blk.alloc) | (with_reducible apply Ear.Blk.drew) | (with_reducible apply Ear.Blk.setC) | (with_reducible apply Ear.Blk.setC' (e := by omega)) | (with_reducible apply Ear.Blk.rowC (e := by first | rfl | omega)) | (with_reducible apply Ear.Blk.otherRow) | (with_reducible apply Ear.Blk.other) | (show _ ≠ _; (try simp only [World.size_alloc, World.size_setCell, World.size_drew, setRow_size]); omega) | (show _ < _; (try simp only [World.size_alloc, World.size_setCell, World.size_drew, setRow_size]); omega)))) (.cons (by (repeat' (first | (show Ear.Blk _ _ _ _; with_reducible assumption) | (with_reducible exact Ear.Blk.new _ _ _) | (with_reducible refine Ear.Blk.new' ?_; (simp only [World.size_alloc, World.size_setCell, World.size_drew, setRow_size]; done)) | (with_reducible apply Ear.Blk.alloc) | (with_reducible apply Ear.Blk.drew) | (with_reducible apply Ear.Blk.setC) | (with_reducible apply Ear.Blk.setC' (e := by omega)) | (with_reducible apply Ear.Blk.rowC (e := by first | rfl | omega)) | (with_reducible apply Ear.Blk.otherRow) | (with_reducible apply Ear.Blk.other) | (show _ ≠ _; (try simp only [World.size_alloc, World.size_setCell, World.size_drew, setRow_size]); omega) | (show _ < _; (try simp only [World.size_alloc, World.size_setCell, World.size_drew, setRow_size]); omega)))) (.nil (by (repeat' (first | (with_reducible exact Below.refl _ _) | (with_reducible assumption) | (show Below 0 _ _; with_reducible refine Below.mono (by assumption) (Nat.zero_le _)) | (with_reducible refine below_setRow ?_ ?_ _) | (with_reducible refine Below.alloc ?_ ?_ _) | (with_reducible refine Below.drew ?_) | (with_reducible refine Below.setCell ?_ ?_ _) | (with_reducible refine Below.frame ?_ _) | (with_reducible exact Nat.le_refl _) | omega | (simp only [World.size_alloc, World.size_setCell, World.size_drew, setRow_size]; omega) | (simp; omega) | (simp; done))))))), (owns_below HN.out ((Below.refl _ w1).alloc (Nat.le_refl _) _))⟩ ?_; (try clear hx_l); (try clear hx_c); (try clear hx_f); (try clear hx); (try clear hy_l); (try clear hy_c); (try clear hy_f); (try clear hy); (try clear hn3); (try clear hB hs); rintro w3 ⟨⟨hx, hy, hB⟩, hn3⟩; replace hB : Below w.heap.size w w3 := hB; have hs := hB.size; (try simp only [List.set_cons_zero, List.set_cons_succ] at hx); (try simp only [List.set_cons_zero, List.set_cons_succ] at hy); have hx_l := hx.lt; have hx_c := hx.cell; have hx_f := hx.frozen; have hy_l := hy.lt; have hy_c := hy.cell; have hy_f := hy.frozen
  replace HN := Lib.hid hn3
  clear hn3
  repeat (first | go_values | go_skip | go_guarded | go_step | go_upon | go_back)
  refine Ear.bp_world (fun W => Ear.Blk W w.heap.size 33 (cellsA k f r h nb L.length nc) ∧ W.ownsRow w.heap.size 84 3 (.slice nb L.length nc) L.length (ntsV L) ∧ Below w.heap.size w W) ⟨Ear.Blk.renew (Ear.Blk.setC (Ear.Blk.setC (Ear.Blk.setC (Ear.Blk.setC (Ear.Blk.setC (Ear.Blk.setC (Ear.Blk.setC (Ear.Blk.setC hx)))))))) rfl, own_store HN.out (by omega) (by omega), by (repeat' (first | (with_reducible exact Below.refl _ _) | (with_reducible assumption) | (show Below 0 _ _; with_reducible refine Below.mono (by assumption) (Nat.zero_le _)) | (with_reducible refine below_setRow ?_ ?_ _) | (with_reducible refine Below.alloc ?_ ?_ _) | (with_reducible refine Below.drew ?_) | (with_reducible refine Below.setCell ?_ ?_ _) | (with_reducible refine Below.frame ?_ _) | (with_reducible exact Nat.le_refl _) | omega | (simp only [World.size_alloc, World.size_setCell, World.size_drew, setRow_size]; omega) | (simp; omega) | (simp; done)))⟩ ?_
  rintro W ⟨hr', hL', hB'⟩
  have hr_c := hr'.cell
  refine bodyPost_ret (v := .tuple #[noteA k f r h nb L.length nc, .int .i64 0]) (by simp [results, Try.results25, go_sem, hr_c]) rfl ?_
  exact ⟨nb, nc, rfl, owns_liesV hL', hB'⟩
end Go.Proofs.Ytklfkfnckdeifaa
end
