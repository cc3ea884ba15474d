/-
  The document's answer to Decode.
-/
import Derived.Test.YtklfkfnckdeifaaWireRb1
import Derived.Test.YtklfkfnckdeifaaWireRb2
import Derived.Test.YtklfkfnckdeifaaWireRb2g
import Derived.Test.YtklfkfnckdeifaaWireRb3
import Derived.Test.YtklfkfnckdeifaaWireU
namespace Go.Proofs.Ytklfkfnckdeifaa
set_option linter.unusedSimpArgs false
set_option linter.unusedVariables false
open Go.RowKit
attribute [local irreducible] Ear.Pl.wpQ Ear.Pa.wpQ Ear.Fe.wpQ Ear.Fa.wpQ Ear.wd withinW numK heardK sumV newsK ntK newsC heardC manyK decS decN decH decR atK bytesN low
set_option maxRecDepth 100000 in
set_option maxHeartbeats 2000000 in
theorem read_zero {n : Int} {base : Option Addr} {cap : Nat} {w : World} :
    Calls Try.prog 44 #[.slice base 0 cap, .int .i64 n] w (RdPost [] n 76 w) := by
  have hw0 := Ear.wd_zero
  go_enter Try.func44, Try.ntmps44
  go_wp2
  refine Ear.bp_world (fun W => Ear.Blk W w.heap.size 33 (cellsA 0 0 0 0#128 none 0 0) ∧ Below w.heap.size w W) ⟨Ear.Blk.renew (by (repeat' (first | (show Ear.Blk _ _ _ _; with_reducible assumption) | (with_reducible exact Ear.Blk.new _ _ _) | (with_reducible refine Ear.Blk.new' ?_; (simp only [World.size_alloc, World.size_setCell, World.size_drew, setRow_size]; done)) | (with_reducible apply Ear.Blk.alloc) | (with_reducible apply Ear.Blk.drew) | (with_reducible apply Ear.Blk.setC) | (with_reducible apply Ear.Blk.setC' (e := by omega)) | (with_reducible apply Ear.Blk.rowC (e := by first | rfl | omega)) | (with_reducible apply Ear.Blk.otherRow) | (with_reducible apply Ear.Blk.other) | (show _ ≠ _; (try simp only [World.size_alloc, World.size_setCell, World.size_drew, setRow_size]); omega) | (show _ < _; (try simp only [World.size_alloc, World.size_setCell, World.size_drew, setRow_size]); omega)))) (by first | (simp only [cellsA, List.set_cons_zero, List.set_cons_succ, hw0]; done) | rfl), by (repeat' (first | (with_reducible exact Below.refl _ _) | (with_reducible assumption) | (show Below 0 _ _; with_reducible refine Below.mono (by assumption) (Nat.zero_le _)) | (with_reducible refine below_setRow ?_ ?_ _) | (with_reducible refine Below.alloc ?_ ?_ _) | (with_reducible refine Below.drew ?_) | (with_reducible refine Below.setCell ?_ ?_ _) | (with_reducible refine Below.frame ?_ _) | (with_reducible exact Nat.le_refl _) | omega | (simp only [World.size_alloc, World.size_setCell, World.size_drew, setRow_size]; omega) | (simp; omega) | (simp; done)))⟩ ?_
  rintro W ⟨hr', hB'⟩
  have hr_c := hr'.cell
  refine bodyPost_ret (v := .tuple #[noteA 0 0 0 0#128 none 0 0, .int .i64 76]) (by simp [results, Try.results44, go_sem, hr_c]) rfl ?_
  exact ⟨fun h => absurd h (by decide), fun _ => ⟨_, _, _, _, _, _, _, rfl, hB'⟩⟩
theorem read_calls {w : World} {base : Option Addr} {cap : Nat} {l : List Int} {n c : Int} (hl : LiesV (bytesV l) base w) (hb : byteOk l) (h1 : 1 ≤ n) (h2 : n ≤ 100) (h5 : l.length ≤ 1024) (hcap : l.length ≤ cap) (hc : decC l n = c) :
    Calls Try.prog 44 #[.slice base l.length cap, .int .i64 n] w (RdPost l n c w) := by
  rcases Nat.eq_zero_or_pos l.length with h0 | h0
  · obtain rfl : l = [] := List.length_eq_zero_iff.1 h0
    have h76 : decC [] n = 76 := by unfold decC; rw [if_pos (by simp)]
    rw [h76] at hc
    subst hc
    exact read_zero
  · obtain ⟨B, o, rfl, hB, -⟩ := hl 0 (by rw [bytesV_len]; omega)
    by_cases hx : 5 ≤ l.length ∧ l.getD 0 0 = 101 ∧ l.getD 1 0 = 115 ∧ (1 ≤ l.getD 2 0 ∧ l.getD 2 0 ≤ 3) ∧ l.getD 3 0 = n ∧ l.getD 4 0 < n
    · obtain ⟨y1, y2, y3, y4, y5, y6⟩ := hx
      rcases (by omega : l.getD 2 0 = 1 ∨ l.getD 2 0 = 2 ∨ l.getD 2 0 = 3) with hk | hk | hk
      · exact read_1 hl hb h1 h2 h5 hcap hc ⟨y1, y2, y3, y5, y6⟩ hk
      · by_cases hg : 10 ≤ l.length ∧ (1 ≤ numK l 5 5 ∧ numK l 5 5 ≤ 1099511627775) ∧ 10 + bytesN n ≤ l.length ∧ withinW (heardK l 10 (bytesN n)) n = true
        · exact read_2g hl hb h1 h2 h5 hcap hc ⟨y1, y2, y3, y5, y6⟩ hk hg
        · exact read_2 hl hb h1 h2 h5 hcap hc ⟨y1, y2, y3, y5, y6⟩ hk hg
      · exact read_3 hl hb h1 h2 h5 hcap hc ⟨y1, y2, y3, y5, y6⟩ hk
    · exact read_pre hl hb h1 h2 h5 hcap hc hx
theorem read_no {w : World} {base : Option Addr} {cap : Nat} {l : List Int} {n c : Int} (hl : LiesV (bytesV l) base w) (hb : byteOk l) (h1 : 1 ≤ n) (h2 : n ≤ 100) (h5 : l.length ≤ 1024) (hcap : l.length ≤ cap) (hc : decC l n = c) (h0 : c ≠ 0) :
    Calls Try.prog 44 #[.slice base l.length cap, .int .i64 n] w (badP w c) := (read_calls hl hb h1 h2 h5 hcap hc).mono fun e w' he => he.bad h0
theorem read_ok {w : World} {base : Option Addr} {cap : Nat} {l : List Int} {n k f r : Int} {h : BitVec 128} {L : List Nt} (hl : LiesV (bytesV l) base w) (hb : byteOk l) (h1 : 1 ≤ n) (h2 : n ≤ 100) (h5 : l.length ≤ 1024) (hcap : l.length ≤ cap) (hc : decC l n = 0) (hk : l.getD 2 0 = k) (hf : l.getD 4 0 = f) (hr : roundD l = r) (hh : heardD l n = h) (hL : newsD l n = L) :
    Calls Try.prog 44 #[.slice base l.length cap, .int .i64 n] w fun e w' => ∃ nb nc, e = .returned (.tuple #[noteA k f r h nb L.length nc, .int .i64 0]) ∧ w'.ownsRow w.heap.size 84 3 (.slice nb L.length nc) L.length (ntsV L) ∧ Below w.heap.size w w' := (read_calls hl hb h1 h2 h5 hcap hc).mono fun e w' he => by
  obtain ⟨nb, nc, h1, h2, h3⟩ := he.ok rfl
  refine ⟨nb, nc, ?_, by rw [← hL, newsD_len]; exact h2, h3⟩
  rw [h1, hk, hf, hr, hh, ← hL, newsD_len]
set_option maxRecDepth 100000 in
set_option maxHeartbeats 4000000 in
/-- The document refuses. -/
theorem RDecode_no {l : List Int} {n c : Int} {base : Option Addr} {cap : Nat} {w : World} (hb : byteOk l) (hl : LiesV (bytesV l) base w) (hcap : l.length ≤ cap) (hc : decodeC l n = c) (h0 : c ≠ 0) :
    Calls Try.prog 25 #[.slice base l.length cap, .int .i64 n] w fun e w' => e = .returned (.tuple #[.agg #[.int .i64 0, .int .i64 0, .int .i64 0, .int .u32 0, .int .u32 0, .int .u32 0, .int .u32 0, .slice none 0 0], .int .i64 c]) ∧ Below w.heap.size w w' := by
  have HB := Lib.hid hb
  have HL := Lib.hid hl
  have hc0 : (c == 0) = false := beq_eq_false_iff_ne.2 h0
  have hc1 : (c != 0) = true := bne_iff_ne.2 h0
  unfold decodeC at hc
  clear hb hl
  by_cases hn : n < 1
  · rw [if_pos (.inl hn)] at hc
    subst hc
    have d1 : decide (n < 1) = true := decide_eq_true hn
    go_enter Try.func25, Try.ntmps25
    go_wp2
    refine Ear.bp_world (Ear.Sh w.heap.size w [(w.heap.size, _, _)]) (.cons (by (repeat' (first | (show Ear.Blk _ _ _ _; with_reducible assumption) | (with_reducible exact Ear.Blk.new _ _ _) | (with_reducible refine Ear.Blk.new' ?_; (simp only [World.size_alloc, World.size_setCell, World.size_drew, setRow_size]; done)) | (with_reducible apply Ear.Blk.alloc) | (with_reducible apply Ear.Blk.drew) | (with_reducible apply Ear.Blk.setC) | (with_reducible apply Ear.Blk.setC' (e := by omega)) | (with_reducible apply Ear.Blk.rowC (e := by first | rfl | omega)) | (with_reducible apply Ear.Blk.otherRow) | (with_reducible apply Ear.Blk.other) | (show _ ≠ _; (try simp only [World.size_alloc, World.size_setCell, World.size_drew, setRow_size]); omega) | (show _ < _; (try simp only [World.size_alloc, World.size_setCell, World.size_drew, setRow_size]); omega)))) (.nil (by (repeat' (first | (with_reducible exact Below.refl _ _) | (with_reducible assumption) | (show Below 0 _ _; with_reducible refine Below.mono (by assumption) (Nat.zero_le _)) | (with_reducible refine below_setRow ?_ ?_ _) | (with_reducible refine Below.alloc ?_ ?_ _) | (with_reducible refine Below.drew ?_) | (with_reducible refine Below.setCell ?_ ?_ _) | (with_reducible refine Below.frame ?_ _) | (with_reducible exact Nat.le_refl _) | omega | (simp only [World.size_alloc, World.size_setCell, World.size_drew, setRow_size]; omega) | (simp; omega) | (simp; done)))))) ?_; (try clear hx_l); (try clear hx_c); (try clear hx_f); (try clear hx); (try clear hB hs); rintro w2 ⟨hx, hB⟩; replace hB : Below w.heap.size w w2 := hB; have hs := hB.size; (try simp only [List.set_cons_zero, List.set_cons_succ] at hx); have hx_l := hx.lt; have hx_c := hx.cell; have hx_f := hx.frozen
    refine bodyPost_ret (v := .tuple #[.agg #[.int .i64 0, .int .i64 0, .int .i64 0, .int .u32 0, .int .u32 0, .int .u32 0, .int .u32 0, .slice none 0 0], .int .i64 1]) (by simp [results, Try.results25, go_sem, *]) rfl ⟨rfl, hB⟩
  have d1 : decide (n < 1) = false := decide_eq_false hn
  by_cases hn2 : 100 < n
  · rw [if_pos (.inr hn2)] at hc
    subst hc
    have d2 : decide (100 < n) = true := decide_eq_true hn2
    go_enter Try.func25, Try.ntmps25
    go_wp2
    refine Ear.bp_world (Ear.Sh w.heap.size w [(w.heap.size, _, _)]) (.cons (by (repeat' (first | (show Ear.Blk _ _ _ _; with_reducible assumption) | (with_reducible exact Ear.Blk.new _ _ _) | (with_reducible refine Ear.Blk.new' ?_; (simp only [World.size_alloc, World.size_setCell, World.size_drew, setRow_size]; done)) | (with_reducible apply Ear.Blk.alloc) | (with_reducible apply Ear.Blk.drew) | (with_reducible apply Ear.Blk.setC) | (with_reducible apply Ear.Blk.setC' (e := by omega)) | (with_reducible apply Ear.Blk.rowC (e := by first | rfl | omega)) | (with_reducible apply Ear.Blk.otherRow) | (with_reducible apply Ear.Blk.other) | (show _ ≠ _; (try simp only [World.size_alloc, World.size_setCell, World.size_drew, setRow_size]); omega) | (show _ < _; (try simp only [World.size_alloc, World.size_setCell, World.size_drew, setRow_size]); omega)))) (.nil (by (repeat' (first | (with_reducible exact Below.refl _ _) | (with_reducible assumption) | (show Below 0 _ _; with_reducible refine Below.mono (by assumption) (Nat.zero_le _)) | (with_reducible refine below_setRow ?_ ?_ _) | (with_reducible refine Below.alloc ?_ ?_ _) | (with_reducible refine Below.drew ?_) | (with_reducible refine Below.setCell ?_ ?_ _) | (with_reducible refine Below.frame ?_ _) | (with_reducible exact Nat.le_refl _) | omega | (simp only [World.size_alloc, World.size_setCell, World.size_drew, setRow_size]; omega) | (simp; omega) | (simp; done)))))) ?_; (try clear hx_l); (try clear hx_c); (try clear hx_f); (try clear hx); (try clear hB hs); rintro w2 ⟨hx, hB⟩; replace hB : Below w.heap.size w w2 := hB; have hs := hB.size; (try simp only [List.set_cons_zero, List.set_cons_succ] at hx); have hx_l := hx.lt; have hx_c := hx.cell; have hx_f := hx.frozen
    refine bodyPost_ret (v := .tuple #[.agg #[.int .i64 0, .int .i64 0, .int .i64 0, .int .u32 0, .int .u32 0, .int .u32 0, .int .u32 0, .slice none 0 0], .int .i64 1]) (by simp [results, Try.results25, go_sem, *]) rfl ⟨rfl, hB⟩
  have d2 : decide (100 < n) = false := decide_eq_false hn2
  rw [if_neg (by omega)] at hc
  by_cases hl : 1024 < l.length
  · rw [if_pos hl] at hc
    subst hc
    have d3 : decide ((1024 : Int) < (l.length : Int)) = true := decide_eq_true (by omega)
    have d4 : decide (1024 < l.length) = true := decide_eq_true (by omega)
    go_enter Try.func25, Try.ntmps25
    go_wp2
    refine Ear.bp_world (Ear.Sh w.heap.size w [(w.heap.size, _, _)]) (.cons (by (repeat' (first | (show Ear.Blk _ _ _ _; with_reducible assumption) | (with_reducible exact Ear.Blk.new _ _ _) | (with_reducible refine Ear.Blk.new' ?_; (simp only [World.size_alloc, World.size_setCell, World.size_drew, setRow_size]; done)) | (with_reducible apply Ear.Blk.alloc) | (with_reducible apply Ear.Blk.drew) | (with_reducible apply Ear.Blk.setC) | (with_reducible apply Ear.Blk.setC' (e := by omega)) | (with_reducible apply Ear.Blk.rowC (e := by first | rfl | omega)) | (with_reducible apply Ear.Blk.otherRow) | (with_reducible apply Ear.Blk.other) | (show _ ≠ _; (try simp only [World.size_alloc, World.size_setCell, World.size_drew, setRow_size]); omega) | (show _ < _; (try simp only [World.size_alloc, World.size_setCell, World.size_drew, setRow_size]); omega)))) (.nil (by (repeat' (first | (with_reducible exact Below.refl _ _) | (with_reducible assumption) | (show Below 0 _ _; with_reducible refine Below.mono (by assumption) (Nat.zero_le _)) | (with_reducible refine below_setRow ?_ ?_ _) | (with_reducible refine Below.alloc ?_ ?_ _) | (with_reducible refine Below.drew ?_) | (with_reducible refine Below.setCell ?_ ?_ _) | (with_reducible refine Below.frame ?_ _) | (with_reducible exact Nat.le_refl _) | omega | (simp only [World.size_alloc, World.size_setCell, World.size_drew, setRow_size]; omega) | (simp; omega) | (simp; done)))))) ?_; (try clear hx_l); (try clear hx_c); (try clear hx_f); (try clear hx); (try clear hB hs); rintro w2 ⟨hx, hB⟩; replace hB : Below w.heap.size w w2 := hB; have hs := hB.size; (try simp only [List.set_cons_zero, List.set_cons_succ] at hx); have hx_l := hx.lt; have hx_c := hx.cell; have hx_f := hx.frozen
    refine bodyPost_ret (v := .tuple #[.agg #[.int .i64 0, .int .i64 0, .int .i64 0, .int .u32 0, .int .u32 0, .int .u32 0, .int .u32 0, .slice none 0 0], .int .i64 2]) (by simp [results, Try.results25, go_sem, *]) rfl ⟨rfl, hB⟩
  rw [if_neg hl] at hc
  have d3 : decide ((1024 : Int) < (l.length : Int)) = false := decide_eq_false (by omega)
  have d4 : decide (1024 < l.length) = false := decide_eq_false (by omega)
  have HC := Lib.hid hc
  have H1 := Lib.hid (show 1 ≤ n by omega)
  have H2 := Lib.hid (show n ≤ 100 by omega)
  have H5 := Lib.hid (show l.length ≤ 1024 by omega)
  clear hc hn hn2 hl
  go_enter Try.func25, Try.ntmps25
  repeat (first | go_values | go_skip | go_guarded | go_step | go_upon | go_back)
  (go_at_call 44; (with_reducible refine Calls.mono (read_no (HL.out.below (by (repeat' (first | (with_reducible exact Below.refl _ _) | (with_reducible assumption) | (show Below 0 _ _; with_reducible refine Below.mono (by assumption) (Nat.zero_le _)) | (with_reducible refine below_setRow ?_ ?_ _) | (with_reducible refine Below.alloc ?_ ?_ _) | (with_reducible refine Below.drew ?_) | (with_reducible refine Below.setCell ?_ ?_ _) | (with_reducible refine Below.frame ?_ _) | (with_reducible exact Nat.le_refl _) | omega | (simp only [World.size_alloc, World.size_setCell, World.size_drew, setRow_size]; omega) | (simp; omega) | (simp; done))))) HB.out H1.out H2.out H5.out hcap HC.out h0) ?_); rintro e w1 ⟨k, f, r, h, nb, m, nc, rfl, hb1⟩; have hB' : Below w.heap.size w w1 := Below.trans (by (repeat' (first | (with_reducible exact Below.refl _ _) | (with_reducible assumption) | (show Below 0 _ _; with_reducible refine Below.mono (by assumption) (Nat.zero_le _)) | (with_reducible refine below_setRow ?_ ?_ _) | (with_reducible refine Below.alloc ?_ ?_ _) | (with_reducible refine Below.drew ?_) | (with_reducible refine Below.setCell ?_ ?_ _) | (with_reducible refine Below.frame ?_ _) | (with_reducible exact Nat.le_refl _) | omega | (simp only [World.size_alloc, World.size_setCell, World.size_drew, setRow_size]; omega) | (simp; omega) | (simp; done)))) (hb1.mono (by (try simp only [World.size_alloc, World.size_setCell, World.size_drew, setRow_size]); omega)); have hx' := (show Ear.Blk w1 (w.heap.size) _ _ from by (repeat' (first | (show Ear.Blk _ _ _ _; with_reducible assumption) | (with_reducible exact Ear.Blk.new _ _ _) | (with_reducible refine Ear.Blk.new' ?_; (simp only [World.size_alloc, World.size_setCell, World.size_drew, setRow_size]; done)) | (with_reducible apply Ear.Blk.alloc) | (with_reducible apply Ear.Blk.drew) | (with_reducible apply Ear.Blk.setC) | (with_reducible apply Ear.Blk.setC' (e := by omega)) | (with_reducible apply Ear.Blk.rowC (e := by first | rfl | omega)) | (with_reducible apply Ear.Blk.otherRow) | (with_reducible apply Ear.Blk.other) | (with_reducible apply Ear.Blk.below (hb := hb1)) | (show _ ≠ _; (try simp only [World.size_alloc, World.size_setCell, World.size_drew, setRow_size]); omega) | (show _ < _; (try simp only [World.size_alloc, World.size_setCell, World.size_drew, setRow_size]); omega)))); clear hb1; (try clear hx_l); (try clear hx_c); (try clear hx_f); (try clear hx); have hx := hx'; clear hx'; (try simp only [List.set_cons_zero, List.set_cons_succ] at hx); have hx_l := hx.lt; have hx_c := hx.cell; have hx_f := hx.frozen; (try clear hB hs); have hB := hB'; clear hB'; have hs := hB.size)
  simp only []
  iterate 24 (first | go_values | go_skip | go_guarded | go_step | go_upon | go_back)
  refine Ear.wp_world (Ear.Sh w.heap.size w [(w.heap.size, _, _)]) (.cons (by (repeat' (first | (show Ear.Blk _ _ _ _; with_reducible assumption) | (with_reducible exact Ear.Blk.new _ _ _) | (with_reducible refine Ear.Blk.new' ?_; (simp only [World.size_alloc, World.size_setCell, World.size_drew, setRow_size]; done)) | (with_reducible apply Ear.Blk.alloc) | (with_reducible apply Ear.Blk.drew) | (with_reducible apply Ear.Blk.setC) | (with_reducible apply Ear.Blk.setC' (e := by omega)) | (with_reducible apply Ear.Blk.rowC (e := by first | rfl | omega)) | (with_reducible apply Ear.Blk.otherRow) | (with_reducible apply Ear.Blk.other) | (show _ ≠ _; (try simp only [World.size_alloc, World.size_setCell, World.size_drew, setRow_size]); omega) | (show _ < _; (try simp only [World.size_alloc, World.size_setCell, World.size_drew, setRow_size]); omega)))) (.nil (by (repeat' (first | (with_reducible exact Below.refl _ _) | (with_reducible assumption) | (show Below 0 _ _; with_reducible refine Below.mono (by assumption) (Nat.zero_le _)) | (with_reducible refine below_setRow ?_ ?_ _) | (with_reducible refine Below.alloc ?_ ?_ _) | (with_reducible refine Below.drew ?_) | (with_reducible refine Below.setCell ?_ ?_ _) | (with_reducible refine Below.frame ?_ _) | (with_reducible exact Nat.le_refl _) | omega | (simp only [World.size_alloc, World.size_setCell, World.size_drew, setRow_size]; omega) | (simp; omega) | (simp; done)))))) ?_; (try clear hx_l); (try clear hx_c); (try clear hx_f); (try clear hx); (try clear hB hs); rintro w3 ⟨hx, hB⟩; replace hB : Below w.heap.size w w3 := hB; have hs := hB.size; (try simp only [List.set_cons_zero, List.set_cons_succ] at hx); have hx_l := hx.lt; have hx_c := hx.cell; have hx_f := hx.frozen
  repeat (first | go_values | go_skip | go_guarded | go_step | go_upon | go_back)
  refine Ear.bp_world (Ear.Sh w.heap.size w [(w.heap.size, _, _)]) (.cons (by (repeat' (first | (show Ear.Blk _ _ _ _; with_reducible assumption) | (with_reducible exact Ear.Blk.new _ _ _) | (with_reducible refine Ear.Blk.new' ?_; (simp only [World.size_alloc, World.size_setCell, World.size_drew, setRow_size]; done)) | (with_reducible apply Ear.Blk.alloc) | (with_reducible apply Ear.Blk.drew) | (with_reducible apply Ear.Blk.setC) | (with_reducible apply Ear.Blk.setC' (e := by omega)) | (with_reducible apply Ear.Blk.rowC (e := by first | rfl | omega)) | (with_reducible apply Ear.Blk.otherRow) | (with_reducible apply Ear.Blk.other) | (show _ ≠ _; (try simp only [World.size_alloc, World.size_setCell, World.size_drew, setRow_size]); omega) | (show _ < _; (try simp only [World.size_alloc, World.size_setCell, World.size_drew, setRow_size]); omega)))) (.nil (by (repeat' (first | (with_reducible exact Below.refl _ _) | (with_reducible assumption) | (show Below 0 _ _; with_reducible refine Below.mono (by assumption) (Nat.zero_le _)) | (with_reducible refine below_setRow ?_ ?_ _) | (with_reducible refine Below.alloc ?_ ?_ _) | (with_reducible refine Below.drew ?_) | (with_reducible refine Below.setCell ?_ ?_ _) | (with_reducible refine Below.frame ?_ _) | (with_reducible exact Nat.le_refl _) | omega | (simp only [World.size_alloc, World.size_setCell, World.size_drew, setRow_size]; omega) | (simp; omega) | (simp; done)))))) ?_; (try clear hx_l); (try clear hx_c); (try clear hx_f); (try clear hx); (try clear hB hs); rintro w2 ⟨hx, hB⟩; replace hB : Below w.heap.size w w2 := hB; have hs := hB.size; (try simp only [List.set_cons_zero, List.set_cons_succ] at hx); have hx_l := hx.lt; have hx_c := hx.cell; have hx_f := hx.frozen
  refine bodyPost_ret (v := .tuple #[.agg #[.int .i64 0, .int .i64 0, .int .i64 0, .int .u32 0, .int .u32 0, .int .u32 0, .int .u32 0, .slice none 0 0], .int .i64 c]) (by simp [results, Try.results25, go_sem, *]) rfl ⟨rfl, hB⟩
set_option maxRecDepth 100000 in
set_option maxHeartbeats 4000000 in
/-- The document takes the bytes. -/
theorem RDecode_ok {l : List Int} {n k f r : Int} {h : BitVec 128} {L : List Nt} {base : Option Addr} {cap : Nat} {w : World} (hb : byteOk l) (hl : LiesV (bytesV l) base w) (hcap : l.length ≤ cap) (hc : decodeC l n = 0) (hk : l.getD 2 0 = k) (hf : l.getD 4 0 = f) (hr : roundD l = r) (hh : heardD l n = h) (hL : newsD l n = L) :
    Calls Try.prog 25 #[.slice base l.length cap, .int .i64 n] w fun e w' => ∃ nb nc, e = .returned (.tuple #[noteA k f r h nb L.length nc, .int .i64 0]) ∧ LiesV (ntsV L) nb w' ∧ Below w.heap.size w w' := by
  have HB := Lib.hid hb
  have HL := Lib.hid hl
  obtain ⟨hn, hlen, -⟩ := decode_ok hc
  unfold decodeC at hc
  rw [if_neg (by omega), if_neg (by omega)] at hc
  have d1 : decide (n < 1) = false := decide_eq_false (by omega)
  have d2 : decide (100 < n) = false := decide_eq_false (by omega)
  have d3 : decide ((1024 : Int) < (l.length : Int)) = false := decide_eq_false (by omega)
  have d4 : decide (1024 < l.length) = false := decide_eq_false (by omega)
  have HC := Lib.hid hc
  have HK := Lib.hid hk
  have HF := Lib.hid hf
  have HR := Lib.hid hr
  have HH := Lib.hid hh
  have HW := Lib.hid hL
  have H1 := Lib.hid hn.1
  have H2 := Lib.hid hn.2
  have H5 := Lib.hid hlen
  clear hb hl hc hn hlen hk hf hr hh hL
  go_enter Try.func25, Try.ntmps25
  repeat (first | go_values | go_skip | go_guarded | go_step | go_upon | go_back)
  (go_at_call 44; (with_reducible refine Calls.mono (read_ok (HL.out.below (by (repeat' (first | (with_reducible exact Below.refl _ _) | (with_reducible assumption) | (show Below 0 _ _; with_reducible refine Below.mono (by assumption) (Nat.zero_le _)) | (with_reducible refine below_setRow ?_ ?_ _) | (with_reducible refine Below.alloc ?_ ?_ _) | (with_reducible refine Below.drew ?_) | (with_reducible refine Below.setCell ?_ ?_ _) | (with_reducible refine Below.frame ?_ _) | (with_reducible exact Nat.le_refl _) | omega | (simp only [World.size_alloc, World.size_setCell, World.size_drew, setRow_size]; omega) | (simp; omega) | (simp; done))))) HB.out H1.out H2.out H5.out hcap HC.out HK.out HF.out HR.out HH.out HW.out) ?_); rintro e w1 ⟨nb, nc, rfl, hl1, hb1⟩; have HN := Lib.hid (owns_base (b' := w.heap.size + 1) hl1 (by (try simp only [World.size_alloc, World.size_setCell, World.size_drew, setRow_size]); omega)); clear hl1; have hB' : Below w.heap.size w w1 := Below.trans (by (repeat' (first | (with_reducible exact Below.refl _ _) | (with_reducible assumption) | (show Below 0 _ _; with_reducible refine Below.mono (by assumption) (Nat.zero_le _)) | (with_reducible refine below_setRow ?_ ?_ _) | (with_reducible refine Below.alloc ?_ ?_ _) | (with_reducible refine Below.drew ?_) | (with_reducible refine Below.setCell ?_ ?_ _) | (with_reducible refine Below.frame ?_ _) | (with_reducible exact Nat.le_refl _) | omega | (simp only [World.size_alloc, World.size_setCell, World.size_drew, setRow_size]; omega) | (simp; omega) | (simp; done)))) (hb1.mono (by (try simp only [World.size_alloc, World.size_setCell, World.size_drew, setRow_size]); omega)); have hx' := (show Ear.Blk w1 (w.heap.size) _ _ from by (repeat' (first | (show Ear.Blk _ _ _ _; with_reducible assumption) | (with_reducible exact Ear.Blk.new _ _ _) | (with_reducible refine Ear.Blk.new' ?_; (simp only [World.size_alloc, World.size_setCell, World.size_drew, setRow_size]; done)) | (with_reducible apply Ear.Blk.alloc) | (with_reducible apply Ear.Blk.drew) | (with_reducible apply Ear.Blk.setC) | (with_reducible apply Ear.Blk.setC' (e := by omega)) | (with_reducible apply Ear.Blk.rowC (e := by first | rfl | omega)) | (with_reducible apply Ear.Blk.otherRow) | (with_reducible apply Ear.Blk.other) | (with_reducible apply Ear.Blk.below (hb := hb1)) | (show _ ≠ _; (try simp only [World.size_alloc, World.size_setCell, World.size_drew, setRow_size]); omega) | (show _ < _; (try simp only [World.size_alloc, World.size_setCell, World.size_drew, setRow_size]); omega)))); clear hb1; (try clear hx_l); (try clear hx_c); (try clear hx_f); (try clear hx); have hx := hx'; clear hx'; (try simp only [List.set_cons_zero, List.set_cons_succ] at hx); have hx_l := hx.lt; have hx_c := hx.cell; have hx_f := hx.frozen; (try clear hB hs); have hB := hB'; clear hB'; have hs := hB.size)
  simp only []
  iterate 24 (first | go_values | go_skip | go_guarded | go_step | go_upon | go_back)
  refine Ear.wp_world (Ear.AndW (Ear.Sh w.heap.size w [(w.heap.size, _, _), (w1.heap.size, _, _)]) (fun W => W.ownsRow (w.heap.size + 1) 84 3 (.slice nb L.length nc) L.length (ntsV L))) ⟨(.cons (by (repeat' (first | (show Ear.Blk _ _ _ _; with_reducible assumption) | (with_reducible exact Ear.Blk.new _ _ _) | (with_reducible refine Ear.Blk.new' ?_; (simp only [World.size_alloc, World.size_setCell, World.size_drew, setRow_size]; done)) | (with_reducible apply Ear.Blk.alloc) | (with_reducible apply Ear.Blk.drew) | (with_reducible apply Ear.Blk.setC) | (with_reducible apply Ear.Blk.setC' (e := by omega)) | (with_reducible apply Ear.Blk.rowC (e := by first | rfl | omega)) | (with_reducible apply Ear.Blk.otherRow) | (with_reducible apply Ear.Blk.other) | (show _ ≠ _; (try simp only [World.size_alloc, World.size_setCell, World.size_drew, setRow_size]); omega) | (show _ < _; (try simp only [World.size_alloc, World.size_setCell, World.size_drew, setRow_size]); omega)))) (.cons (by (repeat' (first | (show Ear.Blk _ _ _ _; with_reducible assumption) | (with_reducible exact Ear.Blk.new _ _ _) | (with_reducible refine Ear.Blk.new' ?_; (simp only [World.size_alloc, World.size_setCell, World.size_drew, setRow_size]; done)) | (with_reducible apply Ear.Blk.alloc) | (with_reducible apply Ear.Blk.drew) | (with_reducible apply Ear.Blk.setC) | (with_reducible apply Ear.Blk.setC' (e := by omega)) | (with_reducible apply Ear.Blk.rowC (e := by first | rfl | omega)) | (with_reducible apply Ear.Blk.otherRow) | (with_reducible apply Ear.Blk.other) | (show _ ≠ _; (try simp only [World.size_alloc, World.size_setCell, World.size_drew, setRow_size]); omega) | (show _ < _; (try simp only [World.size_alloc, World.size_setCell, World.size_drew, setRow_size]); omega)))) (.nil (by (repeat' (first | (with_reducible exact Below.refl _ _) | (with_reducible assumption) | (show Below 0 _ _; with_reducible refine Below.mono (by assumption) (Nat.zero_le _)) | (with_reducible refine below_setRow ?_ ?_ _) | (with_reducible refine Below.alloc ?_ ?_ _) | (with_reducible refine Below.drew ?_) | (with_reducible refine Below.setCell ?_ ?_ _) | (with_reducible refine Below.frame ?_ _) | (with_reducible exact Nat.le_refl _) | omega | (simp only [World.size_alloc, World.size_setCell, World.size_drew, setRow_size]; omega) | (simp; omega) | (simp; done))))))), (owns_below HN.out ((Below.refl _ w1).alloc (Nat.le_refl _) _))⟩ ?_; (try clear hx_l); (try clear hx_c); (try clear hx_f); (try clear hx); (try clear hy_l); (try clear hy_c); (try clear hy_f); (try clear hy); (try clear hn3); (try clear hB hs); rintro w3 ⟨⟨hx, hy, hB⟩, hn3⟩; replace hB : Below w.heap.size w w3 := hB; have hs := hB.size; (try simp only [List.set_cons_zero, List.set_cons_succ] at hx); (try simp only [List.set_cons_zero, List.set_cons_succ] at hy); have hx_l := hx.lt; have hx_c := hx.cell; have hx_f := hx.frozen; have hy_l := hy.lt; have hy_c := hy.cell; have hy_f := hy.frozen
  replace HN := Lib.hid hn3
  clear hn3
  repeat (first | go_values | go_skip | go_guarded | go_step | go_upon | go_back)
  refine Ear.bp_world (fun W => Ear.Blk W w.heap.size 33 (cellsA k f r h nb L.length nc) ∧ W.ownsRow w.heap.size 84 3 (.slice nb L.length nc) L.length (ntsV L) ∧ Below w.heap.size w W) ⟨Ear.Blk.renew (Ear.Blk.setC (Ear.Blk.setC (Ear.Blk.setC (Ear.Blk.setC (Ear.Blk.setC (Ear.Blk.setC (Ear.Blk.setC (Ear.Blk.setC hx)))))))) rfl, own_store HN.out (by omega) (by omega), by (repeat' (first | (with_reducible exact Below.refl _ _) | (with_reducible assumption) | (show Below 0 _ _; with_reducible refine Below.mono (by assumption) (Nat.zero_le _)) | (with_reducible refine below_setRow ?_ ?_ _) | (with_reducible refine Below.alloc ?_ ?_ _) | (with_reducible refine Below.drew ?_) | (with_reducible refine Below.setCell ?_ ?_ _) | (with_reducible refine Below.frame ?_ _) | (with_reducible exact Nat.le_refl _) | omega | (simp only [World.size_alloc, World.size_setCell, World.size_drew, setRow_size]; omega) | (simp; omega) | (simp; done)))⟩ ?_
  rintro W ⟨hr', hL', hB'⟩
  have hr_c := hr'.cell
  refine bodyPost_ret (v := .tuple #[noteA k f r h nb L.length nc, .int .i64 0]) (by simp [results, Try.results25, go_sem, hr_c]) rfl ?_
  exact ⟨nb, nc, rfl, owns_liesV hL', hB'⟩
end Go.Proofs.Ytklfkfnckdeifaa
