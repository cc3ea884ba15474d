/-
  What a form's check, its bytes, and alive come to.
-/
import Derived.Test.YtklfkfnckdeifaaWireC
import Derived.Test.YtklfkfnckdeifaaBookY
import Derived.Lib.SlBytesConst
namespace Go.Proofs.Ytklfkfnckdeifaa
set_option linter.unusedSimpArgs false
set_option linter.unusedVariables false
open Go.RowKit
attribute [local irreducible] Ear.Pl.wpQ Ear.Pa.wpQ Ear.Fe.wpQ Ear.Fa.wpQ sumP sumV digit putL Ear.wd Ear.one Ear.clean riseFrom validN
def withinW (v : BitVec 128) (n : Int) : Bool := decide (v &&& Ear.full (Ear.clampN n) = v)
/-- What a form cannot be of. -/
def formE (n from_ round : Int) (heard : BitVec 128) (news : List Nt) : Int :=
  if n < 1 ∨ 100 < n then 1 else if from_ < 0 ∨ n ≤ from_ then 72 else if round < 1 ∨ 1099511627775 < round then 73 else if withinW heard n = false then 74 else if riseFrom n (-1) news = false then 75 else 0
theorem WithinW_eq {v : BitVec 128} {n : Int} {b : Bool} (h : withinW v n = b) (w : World) : Calls Try.prog 63 #[.agg #[.int .u32 (Ear.wd (v) 0), .int .u32 (Ear.wd (v) 1), .int .u32 (Ear.wd (v) 2), .int .u32 (Ear.wd (v) 3)], .int .i64 n] w fun e w' => e = .returned (.bool b) ∧ Below w.heap.size w w' := by
  subst h; exact Within_calls v n w
attribute [local irreducible] withinW
set_option maxRecDepth 100000 in
set_option maxHeartbeats 4000000 in
theorem check_arg {n kind from_ round : Int} {heard : BitVec 128} {N nc : Nat} {nb : Option Addr} {w : World} (h : n < 1 ∨ 100 < n) :
    Calls Try.prog 59 #[.agg #[.int .i64 n, .int .i64 kind, .int .i64 from_, .int .i64 round, .int .u32 (Ear.wd heard 0), .int .u32 (Ear.wd heard 1), .int .u32 (Ear.wd heard 2), .int .u32 (Ear.wd heard 3), .slice nb N nc]] w fun e w' => e = .returned (.int .i64 1) ∧ Below w.heap.size w w' := by
  have h' : n < 1 ∨ (1 ≤ n ∧ 100 < n) := by omega
  clear h
  rcases h' with h | ⟨h, h'⟩
  all_goals
    go_enter Try.func59, Try.ntmps59
    go_wp2
    go_ret
    exact ⟨rfl, by (repeat' (first | (with_reducible exact Below.refl _ _) | (with_reducible assumption) | (show Below 0 _ _; with_reducible refine Below.mono (by assumption) (Nat.zero_le _)) | (with_reducible refine below_setRow ?_ ?_ _) | (with_reducible refine Below.alloc ?_ ?_ _) | (with_reducible refine Below.drew ?_) | (with_reducible refine Below.setCell ?_ ?_ _) | (with_reducible refine Below.frame ?_ _) | (with_reducible exact Nat.le_refl _) | omega | (simp only [World.size_alloc, World.size_setCell, World.size_drew, setRow_size]; omega) | (simp; omega) | (simp; done)))⟩
set_option maxRecDepth 100000 in
set_option maxHeartbeats 4000000 in
theorem check_from {n kind from_ round : Int} {heard : BitVec 128} {N nc : Nat} {nb : Option Addr} {w : World} (h1 : 1 ≤ n) (h2 : n ≤ 100) (h : from_ < 0 ∨ n ≤ from_) :
    Calls Try.prog 59 #[.agg #[.int .i64 n, .int .i64 kind, .int .i64 from_, .int .i64 round, .int .u32 (Ear.wd heard 0), .int .u32 (Ear.wd heard 1), .int .u32 (Ear.wd heard 2), .int .u32 (Ear.wd heard 3), .slice nb N nc]] w fun e w' => e = .returned (.int .i64 72) ∧ Below w.heap.size w w' := by
  have h' : from_ < 0 ∨ (0 ≤ from_ ∧ n ≤ from_) := by omega
  clear h
  rcases h' with h | ⟨h, h'⟩
  all_goals
    go_enter Try.func59, Try.ntmps59
    go_wp2
    go_ret
    exact ⟨rfl, by (repeat' (first | (with_reducible exact Below.refl _ _) | (with_reducible assumption) | (show Below 0 _ _; with_reducible refine Below.mono (by assumption) (Nat.zero_le _)) | (with_reducible refine below_setRow ?_ ?_ _) | (with_reducible refine Below.alloc ?_ ?_ _) | (with_reducible refine Below.drew ?_) | (with_reducible refine Below.setCell ?_ ?_ _) | (with_reducible refine Below.frame ?_ _) | (with_reducible exact Nat.le_refl _) | omega | (simp only [World.size_alloc, World.size_setCell, World.size_drew, setRow_size]; omega) | (simp; omega) | (simp; done)))⟩
set_option maxRecDepth 100000 in
set_option maxHeartbeats 4000000 in
theorem check_round {n kind from_ round : Int} {heard : BitVec 128} {N nc : Nat} {nb : Option Addr} {w : World} (h1 : 1 ≤ n) (h2 : n ≤ 100) (h3 : 0 ≤ from_) (h4 : from_ < n) (h : round < 1 ∨ 1099511627775 < round) :
    Calls Try.prog 59 #[.agg #[.int .i64 n, .int .i64 kind, .int .i64 from_, .int .i64 round, .int .u32 (Ear.wd heard 0), .int .u32 (Ear.wd heard 1), .int .u32 (Ear.wd heard 2), .int .u32 (Ear.wd heard 3), .slice nb N nc]] w fun e w' => e = .returned (.int .i64 73) ∧ Below w.heap.size w w' := by
  have h' : round < 1 ∨ (1 ≤ round ∧ 1099511627775 < round) := by omega
  clear h
  rcases h' with h | ⟨h, h'⟩
  all_goals
    go_enter Try.func59, Try.ntmps59
    go_wp2
    go_ret
    exact ⟨rfl, by (repeat' (first | (with_reducible exact Below.refl _ _) | (with_reducible assumption) | (show Below 0 _ _; with_reducible refine Below.mono (by assumption) (Nat.zero_le _)) | (with_reducible refine below_setRow ?_ ?_ _) | (with_reducible refine Below.alloc ?_ ?_ _) | (with_reducible refine Below.drew ?_) | (with_reducible refine Below.setCell ?_ ?_ _) | (with_reducible refine Below.frame ?_ _) | (with_reducible exact Nat.le_refl _) | omega | (simp only [World.size_alloc, World.size_setCell, World.size_drew, setRow_size]; omega) | (simp; omega) | (simp; done)))⟩
set_option maxRecDepth 100000 in
set_option maxHeartbeats 4000000 in
theorem check_heard {n kind from_ round : Int} {heard : BitVec 128} {N nc : Nat} {nb : Option Addr} {w : World} (h1 : 1 ≤ n) (h2 : n ≤ 100) (h3 : 0 ≤ from_) (h4 : from_ < n) (h5 : 1 ≤ round) (h6 : round ≤ 1099511627775) (h : withinW heard n = false) :
    Calls Try.prog 59 #[.agg #[.int .i64 n, .int .i64 kind, .int .i64 from_, .int .i64 round, .int .u32 (Ear.wd heard 0), .int .u32 (Ear.wd heard 1), .int .u32 (Ear.wd heard 2), .int .u32 (Ear.wd heard 3), .slice nb N nc]] w fun e w' => e = .returned (.int .i64 74) ∧ Below w.heap.size w w' := by
  have HW := Lib.hid h
  clear h
  go_enter Try.func59, Try.ntmps59
  go_wp2_with (go_at_call 63; (with_reducible refine Calls.mono (WithinW_eq HW.out _) ?_); rintro e w1 ⟨rfl, hb1⟩; have hB' : Below w.heap.size w w1 := Below.trans (by (repeat' (first | (with_reducible exact Below.refl _ _) | (with_reducible assumption) | (show Below 0 _ _; with_reducible refine Below.mono (by assumption) (Nat.zero_le _)) | (with_reducible refine below_setRow ?_ ?_ _) | (with_reducible refine Below.alloc ?_ ?_ _) | (with_reducible refine Below.drew ?_) | (with_reducible refine Below.setCell ?_ ?_ _) | (with_reducible refine Below.frame ?_ _) | (with_reducible exact Nat.le_refl _) | omega | (simp only [World.size_alloc, World.size_setCell, World.size_drew, setRow_size]; omega) | (simp; omega) | (simp; done)))) (hb1.mono (by (try simp only [World.size_alloc, World.size_setCell, World.size_drew, setRow_size]); omega)); have hf' := (show Ear.Blk w1 (w.heap.size) _ _ from by (repeat' (first | (show Ear.Blk _ _ _ _; with_reducible assumption) | (with_reducible exact Ear.Blk.new _ _ _) | (with_reducible refine Ear.Blk.new' ?_; (simp only [World.size_alloc, World.size_setCell, World.size_drew, setRow_size]; done)) | (with_reducible apply Ear.Blk.alloc) | (with_reducible apply Ear.Blk.drew) | (with_reducible apply Ear.Blk.setC) | (with_reducible apply Ear.Blk.setC' (e := by omega)) | (with_reducible apply Ear.Blk.rowC (e := by first | rfl | omega)) | (with_reducible apply Ear.Blk.otherRow) | (with_reducible apply Ear.Blk.other) | (with_reducible apply Ear.Blk.below (hb := hb1)) | (show _ ≠ _; (try simp only [World.size_alloc, World.size_setCell, World.size_drew, setRow_size]); omega) | (show _ < _; (try simp only [World.size_alloc, World.size_setCell, World.size_drew, setRow_size]); omega)))); clear hb1; (try clear hf_l); (try clear hf_c); (try clear hf_f); (try clear hf); have hf := hf'; clear hf'; (try simp only [List.set_cons_zero, List.set_cons_succ] at hf); have hf_l := hf.lt; have hf_c := hf.cell; have hf_f := hf.frozen; (try clear hB hs); have hB := hB'; clear hB'; have hs := hB.size)
  go_ret
  exact ⟨rfl, hB⟩
set_option maxRecDepth 100000 in
set_option maxHeartbeats 4000000 in
theorem check_news {n kind from_ round : Int} {heard : BitVec 128} {L : List Nt} {nc : Nat} {nb : Option Addr} {w : World} {r : Bool} (h1 : 1 ≤ n) (h2 : n ≤ 100) (h3 : 0 ≤ from_) (h4 : from_ < n) (h5 : 1 ≤ round) (h6 : round ≤ 1099511627775) (h : withinW heard n = true) (hr : riseFrom n (-1) L = r) (hn : L.length ≤ 5000) (hl : LiesV (ntsV L) nb w) :
    Calls Try.prog 59 #[.agg #[.int .i64 n, .int .i64 kind, .int .i64 from_, .int .i64 round, .int .u32 (Ear.wd heard 0), .int .u32 (Ear.wd heard 1), .int .u32 (Ear.wd heard 2), .int .u32 (Ear.wd heard 3), .slice nb L.length nc]] w fun e w' => e = .returned (.int .i64 (if r = false then 75 else 0)) ∧ Below w.heap.size w w' := by
  have HW := Lib.hid h
  have HR := Lib.hid hr
  have HL := Lib.hid hl
  clear h hr hl
  cases r
  all_goals
    go_enter Try.func59, Try.ntmps59
    go_wp2_with (first
      | (go_at_call 63; (with_reducible refine Calls.mono (WithinW_eq HW.out _) ?_); rintro e w1 ⟨rfl, hb1⟩; have hB' : Below w.heap.size w w1 := Below.trans (by (repeat' (first | (with_reducible exact Below.refl _ _) | (with_reducible assumption) | (show Below 0 _ _; with_reducible refine Below.mono (by assumption) (Nat.zero_le _)) | (with_reducible refine below_setRow ?_ ?_ _) | (with_reducible refine Below.alloc ?_ ?_ _) | (with_reducible refine Below.drew ?_) | (with_reducible refine Below.setCell ?_ ?_ _) | (with_reducible refine Below.frame ?_ _) | (with_reducible exact Nat.le_refl _) | omega | (simp only [World.size_alloc, World.size_setCell, World.size_drew, setRow_size]; omega) | (simp; omega) | (simp; done)))) (hb1.mono (by (try simp only [World.size_alloc, World.size_setCell, World.size_drew, setRow_size]); omega)); have hf' := (show Ear.Blk w1 (w.heap.size) _ _ from by (repeat' (first | (show Ear.Blk _ _ _ _; with_reducible assumption) | (with_reducible exact Ear.Blk.new _ _ _) | (with_reducible refine Ear.Blk.new' ?_; (simp only [World.size_alloc, World.size_setCell, World.size_drew, setRow_size]; done)) | (with_reducible apply Ear.Blk.alloc) | (with_reducible apply Ear.Blk.drew) | (with_reducible apply Ear.Blk.setC) | (with_reducible apply Ear.Blk.setC' (e := by omega)) | (with_reducible apply Ear.Blk.rowC (e := by first | rfl | omega)) | (with_reducible apply Ear.Blk.otherRow) | (with_reducible apply Ear.Blk.other) | (with_reducible apply Ear.Blk.below (hb := hb1)) | (show _ ≠ _; (try simp only [World.size_alloc, World.size_setCell, World.size_drew, setRow_size]); omega) | (show _ < _; (try simp only [World.size_alloc, World.size_setCell, World.size_drew, setRow_size]); omega)))); clear hb1; (try clear hf_l); (try clear hf_c); (try clear hf_f); (try clear hf); have hf := hf'; clear hf'; (try simp only [List.set_cons_zero, List.set_cons_succ] at hf); have hf_l := hf.lt; have hf_c := hf.cell; have hf_f := hf.frozen; (try clear hB hs); have hB := hB'; clear hB'; have hs := hB.size)
      | (go_at_call 66; (with_reducible refine Calls.mono (Rising_eq HR.out _ _ _ hn (LiesV.below HL.out hB)) ?_); rintro e w2 ⟨rfl, hb2⟩; have hB' : Below w.heap.size w w2 := Below.trans (by (repeat' (first | (with_reducible exact Below.refl _ _) | (with_reducible assumption) | (show Below 0 _ _; with_reducible refine Below.mono (by assumption) (Nat.zero_le _)) | (with_reducible refine below_setRow ?_ ?_ _) | (with_reducible refine Below.alloc ?_ ?_ _) | (with_reducible refine Below.drew ?_) | (with_reducible refine Below.setCell ?_ ?_ _) | (with_reducible refine Below.frame ?_ _) | (with_reducible exact Nat.le_refl _) | omega | (simp only [World.size_alloc, World.size_setCell, World.size_drew, setRow_size]; omega) | (simp; omega) | (simp; done)))) (hb2.mono (by (try simp only [World.size_alloc, World.size_setCell, World.size_drew, setRow_size]); omega)); have hf' := (show Ear.Blk w2 (w.heap.size) _ _ from by (repeat' (first | (show Ear.Blk _ _ _ _; with_reducible assumption) | (with_reducible exact Ear.Blk.new _ _ _) | (with_reducible refine Ear.Blk.new' ?_; (simp only [World.size_alloc, World.size_setCell, World.size_drew, setRow_size]; done)) | (with_reducible apply Ear.Blk.alloc) | (with_reducible apply Ear.Blk.drew) | (with_reducible apply Ear.Blk.setC) | (with_reducible apply Ear.Blk.setC' (e := by omega)) | (with_reducible apply Ear.Blk.rowC (e := by first | rfl | omega)) | (with_reducible apply Ear.Blk.otherRow) | (with_reducible apply Ear.Blk.other) | (with_reducible apply Ear.Blk.below (hb := hb2)) | (show _ ≠ _; (try simp only [World.size_alloc, World.size_setCell, World.size_drew, setRow_size]); omega) | (show _ < _; (try simp only [World.size_alloc, World.size_setCell, World.size_drew, setRow_size]); omega)))); clear hb2; (try clear hf_l); (try clear hf_c); (try clear hf_f); (try clear hf); have hf := hf'; clear hf'; (try simp only [List.set_cons_zero, List.set_cons_succ] at hf); have hf_l := hf.lt; have hf_c := hf.cell; have hf_f := hf.frozen; (try clear hB hs); have hB := hB'; clear hB'; have hs := hB.size))
    go_ret
    exact ⟨rfl, hB⟩
theorem check_calls {n kind from_ round : Int} {heard : BitVec 128} {L : List Nt} {nc : Nat} {nb : Option Addr} {w : World} {c : Int} (hc : formE n from_ round heard L = c) (hn : L.length ≤ 5000) (hl : LiesV (ntsV L) nb w) :
    Calls Try.prog 59 #[.agg #[.int .i64 n, .int .i64 kind, .int .i64 from_, .int .i64 round, .int .u32 (Ear.wd heard 0), .int .u32 (Ear.wd heard 1), .int .u32 (Ear.wd heard 2), .int .u32 (Ear.wd heard 3), .slice nb L.length nc]] w fun e w' => e = .returned (.int .i64 c) ∧ Below w.heap.size w w' := by
  unfold formE at hc
  by_cases h1 : n < 1 ∨ 100 < n
  · rw [if_pos h1] at hc; subst hc; exact check_arg h1
  · rw [if_neg h1] at hc
    by_cases h2 : from_ < 0 ∨ n ≤ from_
    · rw [if_pos h2] at hc; subst hc; exact check_from (by omega) (by omega) h2
    · rw [if_neg h2] at hc
      by_cases h3 : round < 1 ∨ 1099511627775 < round
      · rw [if_pos h3] at hc; subst hc; exact check_round (by omega) (by omega) (by omega) (by omega) h3
      · rw [if_neg h3] at hc
        cases h4 : withinW heard n with
        | false => rw [if_pos h4] at hc; subst hc; exact check_heard (by omega) (by omega) (by omega) (by omega) (by omega) (by omega) h4
        | true =>
          rw [if_neg (by rw [h4]; decide)] at hc
          subst hc
          exact check_news (by omega) (by omega) (by omega) (by omega) (by omega) (by omega) h4 rfl hn hl
theorem rise0 : riseFrom 3 (-1) [] = true := by unfold riseFrom; rfl
theorem within0 : withinW 0#128 3 = true := by unfold withinW Ear.full Ear.clampN; decide +kernel
theorem form0 : formE 3 1 258 0#128 [] = 0 := by
  unfold formE
  rw [if_neg (by decide), if_neg (by decide), if_neg (by decide), if_neg (by rw [within0]; decide), if_neg (by rw [rise0]; decide)]
theorem check0 (w : World) : Calls Try.prog 59 #[.agg #[.int .i64 3, .int .i64 1, .int .i64 1, .int .i64 258, .int .u32 0, .int .u32 0, .int .u32 0, .int .u32 0, .slice none 0 0]] w fun e w' => e = .returned (.int .i64 0) ∧ Below w.heap.size w w' := by
  have h := check_calls (n := 3) (kind := 1) (from_ := 1) (round := 258) (heard := 0#128) (L := []) (nc := 0) (nb := none) (w := w) form0 (by decide) (fun i hi => by simp [ntsV] at hi)
  simp only [Ear.wd_zero] at h
  exact h
theorem put5 : [101, 115, 1, 3, 1] ++ putL 258 5 5 = [101, 115, 1, 3, 1, 0, 0, 0, 1, 2] := by unfold putL digit; decide
theorem put1 : [101, 115, 1, 3, 1, 0, 0, 0, 1, 2] ++ putL 0 1 1 = [101, 115, 1, 3, 1, 0, 0, 0, 1, 2, 0] := by unfold putL digit; decide
theorem sum11 : sumV [101, 115, 1, 3, 1, 0, 0, 0, 1, 2, 0] = 151978209 := by unfold sumV sumP; decide
theorem put4 : [101, 115, 1, 3, 1, 0, 0, 0, 1, 2, 0] ++ putL 151978209 4 4 = [101, 115, 1, 3, 1, 0, 0, 0, 1, 2, 0, 9, 15, 0, 225] := by unfold putL digit; decide
theorem ok11 : byteOk [101, 115, 1, 3, 1, 0, 0, 0, 1, 2, 0] := by unfold byteOk; decide
theorem ok3 : byteOk [97, 98, 99] := by unfold byteOk; decide
theorem sum3 : sumV [97, 98, 99] = 38600999 := by unfold sumV sumP; decide
set_option maxRecDepth 100000 in
set_option maxHeartbeats 4000000 in
theorem bytes0 (w : World) : Calls Try.prog 49 #[.agg #[.int .i64 3, .int .i64 1, .int .i64 1, .int .i64 258, .int .u32 0, .int .u32 0, .int .u32 0, .int .u32 0, .slice none 0 0]] w fun e w' =>
    ∃ base cap, e = .returned (.tuple #[.slice base 15 cap, .int .i64 0]) ∧ w'.ownsRow w.heap.size 5 1 (.slice base 15 cap) 15 (bytesV [101, 115, 1, 3, 1, 0, 0, 0, 1, 2, 0, 9, 15, 0, 225]) ∧ Below w.heap.size w w' := by
  go_enter Try.func49, Try.ntmps49
  go_wp2_with (first
    | (go_at_call 59; (with_reducible refine Calls.mono (check0 _) ?_); rintro e w1 ⟨rfl, hb1⟩; have hB' : Below w.heap.size w w1 := Below.trans (by (repeat' (first | (with_reducible exact Below.refl _ _) | (with_reducible assumption) | (show Below 0 _ _; with_reducible refine Below.mono (by assumption) (Nat.zero_le _)) | (with_reducible refine below_setRow ?_ ?_ _) | (with_reducible refine Below.alloc ?_ ?_ _) | (with_reducible refine Below.drew ?_) | (with_reducible refine Below.setCell ?_ ?_ _) | (with_reducible refine Below.frame ?_ _) | (with_reducible exact Nat.le_refl _) | omega | (simp only [World.size_alloc, World.size_setCell, World.size_drew, setRow_size]; omega) | (simp; omega) | (simp; done)))) (hb1.mono (by (try simp only [World.size_alloc, World.size_setCell, World.size_drew, setRow_size]); omega)); have hf' := (show Ear.Blk w1 (w.heap.size) _ _ from by (repeat' (first | (show Ear.Blk _ _ _ _; with_reducible assumption) | (with_reducible exact Ear.Blk.new _ _ _) | (with_reducible refine Ear.Blk.new' ?_; (simp only [World.size_alloc, World.size_setCell, World.size_drew, setRow_size]; done)) | (with_reducible apply Ear.Blk.alloc) | (with_reducible apply Ear.Blk.drew) | (with_reducible apply Ear.Blk.setC) | (with_reducible apply Ear.Blk.setC' (e := by omega)) | (with_reducible apply Ear.Blk.rowC (e := by first | rfl | omega)) | (with_reducible apply Ear.Blk.otherRow) | (with_reducible apply Ear.Blk.other) | (with_reducible apply Ear.Blk.below (hb := hb1)) | (show _ ≠ _; (try simp only [World.size_alloc, World.size_setCell, World.size_drew, setRow_size]); omega) | (show _ < _; (try simp only [World.size_alloc, World.size_setCell, World.size_drew, setRow_size]); omega)))); clear hb1; (try clear hf_l); (try clear hf_c); (try clear hf_f); (try clear hf); have hf := hf'; clear hf'; (try simp only [List.set_cons_zero, List.set_cons_succ] at hf); have hf_l := hf.lt; have hf_c := hf.cell; have hf_f := hf.frozen; (try clear hB hs); have hB := hB'; clear hB'; have hs := hB.size)
    | (go_at_call 60; have hown1 := owns_of_blkB (lo := w1.heap.size) (n := 5) (s := 1) (W := w1.alloc (.cells #[.int .u8 101, .int .u8 115, .int .u8 1, .int .u8 3, .int .u8 1] 5)) (B := w1.heap.size) (e := 5) (cs := bytesV [101, 115, 1, 3, 1]) (by exact Ear.Blk.new w1 _ _) (Nat.le_refl _) rfl (by unfold maxLen; omega); (with_reducible refine Calls.mono (Put_m (r := 10) (l := [101, 115, 1, 3, 1]) 5 rfl rfl rfl put5 (by omega) (by omega) (by omega) hown1 (by simp)) ?_); rintro e w2 ⟨b2, c2, rfl, hown2, hk2⟩; have HO2 := Lib.hid hown2; have hf2 : Ear.Blk w2 w.heap.size _ _ := Ear.Blk.keep (by (repeat' (first | (show Ear.Blk _ _ _ _; with_reducible assumption) | (with_reducible exact Ear.Blk.new _ _ _) | (with_reducible refine Ear.Blk.new' ?_; (simp only [World.size_alloc, World.size_setCell, World.size_drew, setRow_size]; done)) | (with_reducible apply Ear.Blk.alloc) | (with_reducible apply Ear.Blk.drew) | (with_reducible apply Ear.Blk.setC) | (with_reducible apply Ear.Blk.setC' (e := by omega)) | (with_reducible apply Ear.Blk.rowC (e := by first | rfl | omega)) | (with_reducible apply Ear.Blk.otherRow) | (with_reducible apply Ear.Blk.other) | (show _ ≠ _; (try simp only [World.size_alloc, World.size_setCell, World.size_drew, setRow_size]); omega) | (show _ < _; (try simp only [World.size_alloc, World.size_setCell, World.size_drew, setRow_size]); omega)))) hk2 (fun h => by have := h.1; have := hf_l; omega); have hB2 : Below w.heap.size w w2 := Ear.Keep.below (by (repeat' (first | (with_reducible exact Below.refl _ _) | (with_reducible assumption) | (show Below 0 _ _; with_reducible refine Below.mono (by assumption) (Nat.zero_le _)) | (with_reducible refine below_setRow ?_ ?_ _) | (with_reducible refine Below.alloc ?_ ?_ _) | (with_reducible refine Below.drew ?_) | (with_reducible refine Below.setCell ?_ ?_ _) | (with_reducible refine Below.frame ?_ _) | (with_reducible exact Nat.le_refl _) | omega | (simp only [World.size_alloc, World.size_setCell, World.size_drew, setRow_size]; omega) | (simp; omega) | (simp; done)))) hk2 (by simp; omega) (fun k h => by have := h.1; have := hf_l; omega); have hf2_l := hf2.lt; have hf2_c := hf2.cell; have hs2 := hB2.size; have hs12 : w1.heap.size < w2.heap.size := (by have := hk2.size; simp at this; omega); clear hown1 hown2 hk2)
    | (go_at_call 60; (with_reducible refine Calls.mono (Put_m (r := 11) (l := [101, 115, 1, 3, 1, 0, 0, 0, 1, 2]) 1 rfl rfl rfl put1 (by omega) (by omega) (by omega) HO2.out (by omega)) ?_); rintro e w3 ⟨b3, c3, rfl, hown3, hk3⟩; have HO3 := Lib.hid hown3; have hf3 : Ear.Blk w3 w.heap.size _ _ := Ear.Blk.keep hf2 hk3 (fun h => by have := h.1; omega); have hB3 : Below w.heap.size w w3 := Ear.Keep.below hB2 hk3 (by omega) (fun k h => by have := h.1; omega); have hf3_l := hf3.lt; have hf3_c := hf3.cell; have hs3 := hB3.size; have hs23 := hk3.size; clear hown3 hk3 HO2 hf2_l hf2_c))
  go_loopw [5, 7, 47] (fun b _ i wr => b = .slice b3 11 c3 ∧ i = .int .i64 0 ∧ wr = w3) (fun _ _ _ _ => 0)
  case atStart => exact ⟨rfl, rfl, rfl⟩
  case round =>
    obtain ⟨rfl, rfl, rfl⟩ := hrel
    go_wp2_with (first
      | (go_at_call 16; (with_reducible refine Calls.mono (Sum_m (l := [101, 115, 1, 3, 1, 0, 0, 0, 1, 2, 0]) rfl sum11 ok11 (by omega) (owns_liesV HO3.out)) ?_); rintro e w4 ⟨rfl, hb4⟩; have HO4 := Lib.hid (owns_below HO3.out hb4); have hs4 := hb4.size; have hB4 := hB3.trans (hb4.mono hs3); clear hb4)
      | (go_at_call 60; (with_reducible refine Calls.mono (Put_m (r := 15) (l := [101, 115, 1, 3, 1, 0, 0, 0, 1, 2, 0]) 4 rfl rfl rfl put4 (by omega) (by omega) (by omega) HO4.out (by omega)) ?_); rintro e w5 ⟨b5, c5, rfl, hown5, hk5⟩; have hB5 : Below w.heap.size w w5 := Ear.Keep.below hB4 hk5 (by omega) (fun k h => by have := h.1; omega)))
    go_ret2
    exact ⟨b5, c5, rfl, owns_base hown5 (by omega), hB5⟩
set_option maxHeartbeats 1000000 in
theorem KindQ (a b : Int) (nb : Option Addr) (N nc : Nat) (w : World) : Calls Try.prog 46 #[.agg #[.int .i64 a, .int .i64 b, .slice nb N nc]] w fun e w' => e = .returned (.int .i64 1) ∧ Below w.heap.size w w' := by
  go_enter Try.func46, Try.ntmps46
  go_wp2
  go_ret
  exact ⟨rfl, by (repeat' (first | (with_reducible exact Below.refl _ _) | (with_reducible assumption) | (show Below 0 _ _; with_reducible refine Below.mono (by assumption) (Nat.zero_le _)) | (with_reducible refine below_setRow ?_ ?_ _) | (with_reducible refine Below.alloc ?_ ?_ _) | (with_reducible refine Below.drew ?_) | (with_reducible refine Below.setCell ?_ ?_ _) | (with_reducible refine Below.frame ?_ _) | (with_reducible exact Nat.le_refl _) | omega | (simp only [World.size_alloc, World.size_setCell, World.size_drew, setRow_size]; omega) | (simp; omega) | (simp; done)))⟩
set_option maxRecDepth 100000 in
set_option maxHeartbeats 4000000 in
theorem QBytes0 (w : World) : Calls Try.prog 37 #[.agg #[.int .i64 1, .int .i64 258, .slice none 0 0], .int .i64 3] w fun e w' =>
    ∃ base cap, e = .returned (.tuple #[.slice base 15 cap, .int .i64 0]) ∧ w'.ownsRow w.heap.size 5 1 (.slice base 15 cap) 15 (bytesV [101, 115, 1, 3, 1, 0, 0, 0, 1, 2, 0, 9, 15, 0, 225]) ∧ Below w.heap.size w w' := by
  go_enter Try.func37, Try.ntmps37
  go_wp2
  refine Ear.wp_world (Ear.Sh w.heap.size w [(w.heap.size, _, _)]) (.cons (by (repeat' (first | (show Ear.Blk _ _ _ _; with_reducible assumption) | (with_reducible exact Ear.Blk.new _ _ _) | (with_reducible refine Ear.Blk.new' ?_; (simp only [World.size_alloc, World.size_setCell, World.size_drew, setRow_size]; done)) | (with_reducible apply Ear.Blk.alloc) | (with_reducible apply Ear.Blk.drew) | (with_reducible apply Ear.Blk.setC) | (with_reducible apply Ear.Blk.setC' (e := by omega)) | (with_reducible apply Ear.Blk.rowC (e := by first | rfl | omega)) | (with_reducible apply Ear.Blk.otherRow) | (with_reducible apply Ear.Blk.other) | (show _ ≠ _; (try simp only [World.size_alloc, World.size_setCell, World.size_drew, setRow_size]); omega) | (show _ < _; (try simp only [World.size_alloc, World.size_setCell, World.size_drew, setRow_size]); omega)))) (.nil (by (repeat' (first | (with_reducible exact Below.refl _ _) | (with_reducible assumption) | (show Below 0 _ _; with_reducible refine Below.mono (by assumption) (Nat.zero_le _)) | (with_reducible refine below_setRow ?_ ?_ _) | (with_reducible refine Below.alloc ?_ ?_ _) | (with_reducible refine Below.drew ?_) | (with_reducible refine Below.setCell ?_ ?_ _) | (with_reducible refine Below.frame ?_ _) | (with_reducible exact Nat.le_refl _) | omega | (simp only [World.size_alloc, World.size_setCell, World.size_drew, setRow_size]; omega) | (simp; omega) | (simp; done)))))) ?_; (try clear hq_l); (try clear hq_c); (try clear hq_f); (try clear hq); (try clear hB hs); rintro w1 ⟨hq, hB⟩; replace hB : Below w.heap.size w w1 := hB; have hs := hB.size; (try simp only [List.set_cons_zero, List.set_cons_succ] at hq); have hq_l := hq.lt; have hq_c := hq.cell; have hq_f := hq.frozen
  refine Ear.Pl.C2.wp_region_qrb 10 #[true, true, true, true, true, true, true, true, true, true, false, false, false, false, false] (by kernel_rfl) (by kernel_rfl) (fun C hC1 hC2 => ?_); simp only [List.take_succ_cons, List.take_zero, List.drop_succ_cons, List.drop_zero]
  (iterate 2 (refine Ear.Pl.wpQ_run (by rfl) ?_; apply Exists.intro; refine ⟨fun K Q hK w' hw' => ?_, ?_⟩; (focus (obtain ⟨hc', hf'⟩ := Ear.bcell (hC1.out w' hw'); simp only [Act.put, List.setIfInBounds_toArray, List.set_cons_succ, List.set_cons_zero] at hK; go_wp2; exact hw')); simp only [Act.put, List.setIfInBounds_toArray, List.set_cons_succ, List.set_cons_zero]))
  refine Ear.Pl.wpQ_run (by rfl) ?_; apply Exists.intro; refine ⟨fun K Q hK w' hw' => ?_, ?_⟩; (focus (simp only [Act.put, List.setIfInBounds_toArray, List.set_cons_succ, List.set_cons_zero] at hK; go_wp2_with (refine (KindQ _ _ _ _ _ _).mono ?_; rintro e w'' ⟨rfl, hb''⟩); exact hC2.out _ _ hw' hb'')); simp only [Act.put, List.setIfInBounds_toArray, List.set_cons_succ, List.set_cons_zero]
  (iterate 7 (refine Ear.Pl.wpQ_run (by rfl) ?_; apply Exists.intro; refine ⟨fun K Q hK w' hw' => ?_, ?_⟩; (focus (obtain ⟨hc', hf'⟩ := Ear.bcell (hC1.out w' hw'); simp only [Act.put, List.setIfInBounds_toArray, List.set_cons_succ, List.set_cons_zero] at hK; go_wp2; exact hw')); simp only [Act.put, List.setIfInBounds_toArray, List.set_cons_succ, List.set_cons_zero]))
  refine Ear.Pl.wpQ_nil ?_
  intro w2 hb2
  clear hC1 hC2
  have hq2 : Below w.heap.size w w2 := hB.trans ((((Below.refl _ w1).drew).trans hb2).mono hs)
  have hs2 := hq2.size
  clear hb2
  refine wpAny_ready (rs := [10]) (by kernel_rfl) (by simp) ?_; refine AllReady.cons rfl (fun K hK => ?_) ?_; (focus ((go_simp); (first | (refine hK _ _ ?_; clear hK K) | (go_wp2_with ((go_at_call 49; (with_reducible refine Calls.mono (bytes0 _) ?_); rintro e w3 ⟨b3, c3, rfl, hown3, hb3⟩; have HO3 := Lib.hid hown3; have hB3 := hq2.trans (hb3.mono hs2); clear hown3 hb3)); first | (show wpAny _ _ _ _ _ _ _ _; skip) | (refine hK _ _ ?_); (try clear hK K))); refine wpAny_ready (rs := [11,12]) (by kernel_rfl) (by simp) ?_; refine AllReady.cons rfl (fun K hK => ?_) ?_; (focus ((go_simp); (first | (refine hK _ _ ?_; clear hK K) | (go_wp2_with ((go_at_call 49; (with_reducible refine Calls.mono (bytes0 _) ?_); rintro e w3 ⟨b3, c3, rfl, hown3, hb3⟩; have HO3 := Lib.hid hown3; have hB3 := hq2.trans (hb3.mono hs2); clear hown3 hb3)); first | (show wpAny _ _ _ _ _ _ _ _; skip) | (refine hK _ _ ?_); (try clear hK K))); refine wpAny_ready (rs := [12]) (by kernel_rfl) (by simp) ?_; refine AllReady.cons rfl (fun K hK => ?_) ?_; (focus ((go_simp); (first | (refine hK _ _ ?_; clear hK K) | (go_wp2_with ((go_at_call 49; (with_reducible refine Calls.mono (bytes0 _) ?_); rintro e w3 ⟨b3, c3, rfl, hown3, hb3⟩; have HO3 := Lib.hid hown3; have hB3 := hq2.trans (hb3.mono hs2); clear hown3 hb3)); first | (show wpAny _ _ _ _ _ _ _ _; skip) | (refine hK _ _ ?_); (try clear hK K))); refine wpAny_ready (rs := [13]) (by kernel_rfl) (by simp) ?_; refine AllReady.cons rfl (fun K hK => ?_) ?_; (focus ((go_simp); (first | (refine hK _ _ ?_; clear hK K) | (go_wp2_with ((go_at_call 49; (with_reducible refine Calls.mono (bytes0 _) ?_); rintro e w3 ⟨b3, c3, rfl, hown3, hb3⟩; have HO3 := Lib.hid hown3; have hB3 := hq2.trans (hb3.mono hs2); clear hown3 hb3)); first | (show wpAny _ _ _ _ _ _ _ _; skip) | (refine hK _ _ ?_); (try clear hK K))); refine wpAny_ready (rs := [14]) (by kernel_rfl) (by simp) ?_; refine AllReady.cons rfl (fun K hK => ?_) ?_; (focus ((go_simp); (first | (refine hK _ _ ?_; clear hK K) | (go_wp2_with ((go_at_call 49; (with_reducible refine Calls.mono (bytes0 _) ?_); rintro e w3 ⟨b3, c3, rfl, hown3, hb3⟩; have HO3 := Lib.hid hown3; have hB3 := hq2.trans (hb3.mono hs2); clear hown3 hb3)); first | (show wpAny _ _ _ _ _ _ _ _; skip) | (refine hK _ _ ?_); (try clear hK K))); refine wpAny_done (by kernel_rfl) ?_ _; (try dsimp only [Act.put, List.setIfInBounds_toArray, List.set_cons_succ, List.set_cons_zero]); go_wp2; go_ret2; exact ⟨b3, c3, rfl, owns_base HO3.out hs2, hB3⟩)); exact AllReady.nil)); exact AllReady.nil)); exact AllReady.nil)); refine AllReady.cons rfl (fun K hK => ?_) ?_; (focus ((go_simp); (first | (refine hK _ _ ?_; clear hK K) | (go_wp2_with ((go_at_call 49; (with_reducible refine Calls.mono (bytes0 _) ?_); rintro e w3 ⟨b3, c3, rfl, hown3, hb3⟩; have HO3 := Lib.hid hown3; have hB3 := hq2.trans (hb3.mono hs2); clear hown3 hb3)); first | (show wpAny _ _ _ _ _ _ _ _; skip) | (refine hK _ _ ?_); (try clear hK K))); refine wpAny_ready (rs := [11]) (by kernel_rfl) (by simp) ?_; refine AllReady.cons rfl (fun K hK => ?_) ?_; (focus ((go_simp); (first | (refine hK _ _ ?_; clear hK K) | (go_wp2_with ((go_at_call 49; (with_reducible refine Calls.mono (bytes0 _) ?_); rintro e w3 ⟨b3, c3, rfl, hown3, hb3⟩; have HO3 := Lib.hid hown3; have hB3 := hq2.trans (hb3.mono hs2); clear hown3 hb3)); first | (show wpAny _ _ _ _ _ _ _ _; skip) | (refine hK _ _ ?_); (try clear hK K))); refine wpAny_ready (rs := [13]) (by kernel_rfl) (by simp) ?_; refine AllReady.cons rfl (fun K hK => ?_) ?_; (focus ((go_simp); (first | (refine hK _ _ ?_; clear hK K) | (go_wp2_with ((go_at_call 49; (with_reducible refine Calls.mono (bytes0 _) ?_); rintro e w3 ⟨b3, c3, rfl, hown3, hb3⟩; have HO3 := Lib.hid hown3; have hB3 := hq2.trans (hb3.mono hs2); clear hown3 hb3)); first | (show wpAny _ _ _ _ _ _ _ _; skip) | (refine hK _ _ ?_); (try clear hK K))); refine wpAny_ready (rs := [14]) (by kernel_rfl) (by simp) ?_; refine AllReady.cons rfl (fun K hK => ?_) ?_; (focus ((go_simp); (first | (refine hK _ _ ?_; clear hK K) | (go_wp2_with ((go_at_call 49; (with_reducible refine Calls.mono (bytes0 _) ?_); rintro e w3 ⟨b3, c3, rfl, hown3, hb3⟩; have HO3 := Lib.hid hown3; have hB3 := hq2.trans (hb3.mono hs2); clear hown3 hb3)); first | (show wpAny _ _ _ _ _ _ _ _; skip) | (refine hK _ _ ?_); (try clear hK K))); refine wpAny_done (by kernel_rfl) ?_ _; (try dsimp only [Act.put, List.setIfInBounds_toArray, List.set_cons_succ, List.set_cons_zero]); go_wp2; go_ret2; exact ⟨b3, c3, rfl, owns_base HO3.out hs2, hB3⟩)); exact AllReady.nil)); exact AllReady.nil)); exact AllReady.nil)); exact AllReady.nil)); exact AllReady.nil
theorem owns_posW {W : World} {lo e s n c : Nat} {b : Option Addr} {xs : List Value} (h : W.ownsRow lo e s (.slice b n c) n xs) (hn : 0 < n) : ∃ g, b = some ⟨g, 0, none⟩ ∧ g < W.heap.size ∧ ∀ j u, xs[j]? = some u → W.cell? ⟨g, j, none⟩ = some u := by
  have hl := owns_liesV h
  obtain ⟨hx, ⟨hv, hn0⟩ | ⟨g, cap', cur, hv, hb, hc, h1, h2, h3, h4⟩⟩ := h
  · omega
  · simp only [Value.slice.injEq] at hv
    obtain ⟨rfl, -, rfl⟩ := hv
    refine ⟨g, rfl, (Array.getElem?_eq_some_iff.1 hc).1, fun j u hj => ?_⟩
    obtain ⟨B, o, he, hB, hcell⟩ := hl j (List.getElem?_eq_some_iff.1 hj).1
    simp only [Option.some.injEq, Addr.mk.injEq] at he
    obtain ⟨rfl, rfl, -⟩ := he
    rw [← hj, ← hcell, Nat.zero_add]
theorem lies_abc (w : World) : LiesV (bytesV [97, 98, 99]) (some ⟨w.heap.size, 0, none⟩) (w.alloc (.cells #[.int .u8 97, .int .u8 98, .int .u8 99] 5 (3, 4))) := by
  intro i hi
  refine ⟨_, 0, rfl, by simp, ?_⟩
  have hi3 : i < 3 := hi
  rw [Nat.zero_add]
  have h : i = 0 ∨ i = 1 ∨ i = 2 := by omega
  have hh : (w.alloc (.cells #[.int .u8 97, .int .u8 98, .int .u8 99] 5 (3, 4))).heap[w.heap.size]? = some (.cells #[.int .u8 97, .int .u8 98, .int .u8 99] 5 (3, 4)) := by
    show (w.heap.push _)[w.heap.size]? = _
    simp
  rcases h with rfl | rfl | rfl <;> (unfold World.cell?; rw [hh]; rfl)
theorem lies_blk {W : World} {B T : Nat} {cs : List Value} (h : Ear.Blk W B T cs) : LiesV cs (some ⟨B, 0, none⟩) W := fun i hi => ⟨B, 0, rfl, h.lt, by rw [h.cell, Nat.zero_add]⟩
set_option maxRecDepth 100000 in
set_option maxHeartbeats 4000000 in
theorem alive7 (w : World) : Calls Try.prog 15 #[] w fun e w' => e = .returned (.bool true) ∧ Below w.heap.size w w' := by
  have HS3 := Lib.hid sum3
  have kc := fun (w : World) (C : Array Value) (n c : Nat) => Lib.run_convert_bytes_const (P := Try.prog) w 22 5 C n c Try.underlying22 Try.underlying5
  go_enter Try.func15, Try.ntmps15
  go_wp2_with (first
    | (go_at_call 37; (with_reducible refine Calls.mono (QBytes0 _) ?_); rintro e w1 ⟨b1, c1, rfl, hown1, hb1⟩; obtain ⟨g1, rfl, hg1, hc1⟩ := owns_posW hown1 (by omega); have a9 : w1.cell? ⟨g1, 9, none⟩ = some (.int .u8 2) := hc1 9 _ rfl; have hB := hb1; have hs := hB.size; clear hown1 hb1 hc1)
    | (go_at_call 16; (with_reducible refine Calls.mono (Sum_m (l := [97, 98, 99]) rfl HS3.out ok3 (by omega) (lies_abc w1)) ?_); rintro e w2 ⟨rfl, hb2⟩; have hq2 : Below w1.heap.size w1 w2 := Below.trans (by (repeat' (first | (with_reducible exact Below.refl _ _) | (with_reducible assumption) | (show Below 0 _ _; with_reducible refine Below.mono (by assumption) (Nat.zero_le _)) | (with_reducible refine below_setRow ?_ ?_ _) | (with_reducible refine Below.alloc ?_ ?_ _) | (with_reducible refine Below.drew ?_) | (with_reducible refine Below.setCell ?_ ?_ _) | (with_reducible refine Below.frame ?_ _) | (with_reducible exact Nat.le_refl _) | omega | (simp only [World.size_alloc, World.size_setCell, World.size_drew, setRow_size]; omega) | (simp; omega) | (simp; done)))) (hb2.mono (by (try simp only [World.size_alloc, World.size_setCell, World.size_drew, setRow_size]); omega)); have a9' : w2.cell? ⟨g1, 9, none⟩ = some (.int .u8 2) := (hq2.cell (p := ⟨g1, 9, none⟩) hg1).trans a9; have hs2 := hq2.size; have hB2 := hB.trans (hq2.mono hs); clear hb2 a9))
  go_ret
  exact ⟨rfl, hB2⟩
theorem byteOk_l {l : List Int} (h : byteOk l) : byteOk l := h
theorem lies_lent {W : World} {g : Nat} {l : List Int} (h : Ear.Blk W g 5 (bytesV (l ++ marks 9))) : LiesV (bytesV l) (some ⟨g, 0, none⟩) W := by
  intro i hi
  refine ⟨g, 0, rfl, h.lt, ?_⟩
  rw [h.cell, Nat.zero_add, bytesV_append, List.getElem?_append_left hi]
theorem Sum_v {l : List Int} {v : Int} {base : Option Addr} {cap : Nat} {w : World} (hv : sumV l = v) (hb : byteOk l) (hn : l.length ≤ 140737488355328) (hl : LiesV (bytesV l) base w) :
    Calls Try.prog 16 #[.slice base l.length cap] w fun e w' => e = .returned (.int .i64 v) ∧ Below w.heap.size w w' := by
  subst hv; exact Sum_calls l base cap w hb hn hl
theorem RSum_v {l : List Int} {v : Int} {base : Option Addr} {cap : Nat} {w : World} (hv : sumV l = v) (hb : byteOk l) (hn : l.length ≤ 140737488355328) (hl : LiesV (bytesV l) base w) :
    Calls Try.prog 17 #[.slice base l.length cap] w fun e w' => e = .returned (.int .i64 v) ∧ Below w.heap.size w w' := by
  subst hv; exact RSum_calls l base cap w hb hn hl
set_option maxRecDepth 100000 in
set_option maxHeartbeats 4000000 in
theorem WireSums_calls (l : List Int) (base : Option Addr) (cap : Nat) (w : World) (hb : byteOk l) (hn : l.length ≤ 140737488351232) (hl : LiesV (bytesV l) base w) :
    Calls Try.prog 3 #[.slice base l.length cap] w fun e w' => e = .returned (.bool true) ∧ Below w.heap.size w w' := by
  have HB := Lib.hid hb
  have HN := Lib.hid hn
  have HN2 := Lib.hid (show l.length ≤ 140737488355328 by omega)
  have HL := Lib.hid hl
  obtain ⟨v, hv⟩ : ∃ v, sumV l = v := ⟨_, rfl⟩
  have HV := Lib.hid hv
  have ev : (v == v) = true := beq_self_eq_true _
  clear hb hn hl hv
  go_enter Try.func3, Try.ntmps3
  go_wp2_with (first
    | (go_at_call 14; (with_reducible refine Calls.mono (Lent_calls l base cap _ HN.out HL.out) ?_); rintro e w1 ⟨rfl, hx1, hb1⟩; have HX := Lib.hid hx1; have hB := hb1; have hs := hB.size; clear hx1 hb1)
    | (go_at_call 15; (with_reducible refine Calls.mono (alive7 _) ?_); rintro e w2 ⟨rfl, hb2⟩; have HX2 := Lib.hid (HX.out.below hb2 HX.out.lt); have hB' : Below w.heap.size w w2 := Below.trans (by (repeat' (first | (with_reducible exact Below.refl _ _) | (with_reducible assumption) | (show Below 0 _ _; with_reducible refine Below.mono (by assumption) (Nat.zero_le _)) | (with_reducible refine below_setRow ?_ ?_ _) | (with_reducible refine Below.alloc ?_ ?_ _) | (with_reducible refine Below.drew ?_) | (with_reducible refine Below.setCell ?_ ?_ _) | (with_reducible refine Below.frame ?_ _) | (with_reducible exact Nat.le_refl _) | omega | (simp only [World.size_alloc, World.size_setCell, World.size_drew, setRow_size]; omega) | (simp; omega) | (simp; done)))) (hb2.mono (by (try simp only [World.size_alloc, World.size_setCell, World.size_drew, setRow_size]); omega)); clear hb2; (try clear hB hs); have hB := hB'; clear hB'; have hs := hB.size)
    | (go_at_call 16; (with_reducible refine Calls.mono (Sum_v HV.out (byteOk_l HB.out) HN2.out (lies_lent HX2.out)) ?_); rintro e w3 ⟨rfl, hb3⟩; have HX3 := Lib.hid (HX2.out.below hb3 HX2.out.lt); have hB' : Below w.heap.size w w3 := Below.trans (by (repeat' (first | (with_reducible exact Below.refl _ _) | (with_reducible assumption) | (show Below 0 _ _; with_reducible refine Below.mono (by assumption) (Nat.zero_le _)) | (with_reducible refine below_setRow ?_ ?_ _) | (with_reducible refine Below.alloc ?_ ?_ _) | (with_reducible refine Below.drew ?_) | (with_reducible refine Below.setCell ?_ ?_ _) | (with_reducible refine Below.frame ?_ _) | (with_reducible exact Nat.le_refl _) | omega | (simp only [World.size_alloc, World.size_setCell, World.size_drew, setRow_size]; omega) | (simp; omega) | (simp; done)))) (hb3.mono (by (try simp only [World.size_alloc, World.size_setCell, World.size_drew, setRow_size]); omega)); clear hb3; (try clear hB hs); have hB := hB'; clear hB'; have hs := hB.size)
    | (go_at_call 17; (with_reducible refine Calls.mono (RSum_v HV.out (byteOk_l HB.out) HN2.out (LiesV.below HL.out hB)) ?_); rintro e w4 ⟨rfl, hb4⟩; have HX4 := Lib.hid (HX3.out.below hb4 HX3.out.lt); have hB' : Below w.heap.size w w4 := Below.trans (by (repeat' (first | (with_reducible exact Below.refl _ _) | (with_reducible assumption) | (show Below 0 _ _; with_reducible refine Below.mono (by assumption) (Nat.zero_le _)) | (with_reducible refine below_setRow ?_ ?_ _) | (with_reducible refine Below.alloc ?_ ?_ _) | (with_reducible refine Below.drew ?_) | (with_reducible refine Below.setCell ?_ ?_ _) | (with_reducible refine Below.frame ?_ _) | (with_reducible exact Nat.le_refl _) | omega | (simp only [World.size_alloc, World.size_setCell, World.size_drew, setRow_size]; omega) | (simp; omega) | (simp; done)))) (hb4.mono (by (try simp only [World.size_alloc, World.size_setCell, World.size_drew, setRow_size]); omega)); clear hb4; (try clear hB hs); have hB := hB'; clear hB'; have hs := hB.size)
    | (go_at_call 18; (with_reducible refine Calls.mono (Stays_calls l _ base cap _ HN.out HX4.out (LiesV.below HL.out hB)) ?_); rintro e w5 ⟨rfl, hb5⟩; have hB' : Below w.heap.size w w5 := Below.trans (by (repeat' (first | (with_reducible exact Below.refl _ _) | (with_reducible assumption) | (show Below 0 _ _; with_reducible refine Below.mono (by assumption) (Nat.zero_le _)) | (with_reducible refine below_setRow ?_ ?_ _) | (with_reducible refine Below.alloc ?_ ?_ _) | (with_reducible refine Below.drew ?_) | (with_reducible refine Below.setCell ?_ ?_ _) | (with_reducible refine Below.frame ?_ _) | (with_reducible exact Nat.le_refl _) | omega | (simp only [World.size_alloc, World.size_setCell, World.size_drew, setRow_size]; omega) | (simp; omega) | (simp; done)))) (hb5.mono (by (try simp only [World.size_alloc, World.size_setCell, World.size_drew, setRow_size]); omega)); clear hb5; (try clear hB hs); have hB := hB'; clear hB'; have hs := hB.size))
  go_ret
  exact ⟨rfl, hB⟩
end Go.Proofs.Ytklfkfnckdeifaa
