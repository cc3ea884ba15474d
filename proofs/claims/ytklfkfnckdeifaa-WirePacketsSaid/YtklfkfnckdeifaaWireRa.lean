/-
  The document's numbers and sets, read from bytes.
-/
import Derived.Test.YtklfkfnckdeifaaWireU
import Derived.Laws.BitsAllLaws
namespace Go.Proofs.Ytklfkfnckdeifaa
set_option linter.unusedSimpArgs false
set_option linter.unusedVariables false
open Go.RowKit
theorem numK_succ (l : List Int) (k m : Nat) : numK l k (m + 1) = numK l k m * 256 + l.getD (k + m) 0 := rfl
theorem numK_zero (l : List Int) (k : Nat) : numK l k 0 = 0 := rfl
attribute [local irreducible] Ear.Pl.wpQ Ear.Pa.wpQ Ear.Fe.wpQ Ear.Fa.wpQ Ear.wd numK heardK
theorem num_stepR (l : List Int) (k j : Nat) (hb : byteOk l) (hj : j < 5) {x : Int} (hx : l.getD (k + j) 0 = x) (x0 : 0 ≤ x) (x1 : x < 256) : wrap64 (wrap64 (numK l k j * 256) + x) = numK l k (j + 1) := by
  have h := numK_in hb k j
  have h2 : (256 : Int) ^ j ≤ 4294967296 := by
    rcases (by omega : j = 0 ∨ j = 1 ∨ j = 2 ∨ j = 3 ∨ j = 4) with rfl | rfl | rfl | rfl | rfl <;> decide
  rw [numK_succ, hx]
  simp only [wrap64]; omega
set_option maxRecDepth 100000 in
set_option maxHeartbeats 2000000 in
theorem value_calls {w : World} {B o cap k m : Nat} {l : List Int} (hl : LiesV (bytesV l) (some ⟨B, o, none⟩) w) (hb : byteOk l) (hn : k + m ≤ l.length) (h5 : m ≤ 5) :
    Calls Try.prog 57 #[.slice (some ⟨B, o + k, none⟩) m cap] w fun e w' => e = .returned (.int .i64 (numK l k m)) ∧ Below w.heap.size w w' := by
  have HL := Lib.hid hl
  have HB := Lib.hid hb
  have HZ := Lib.hid (numK_zero l k)
  clear hl hb
  go_enter Try.func57, Try.ntmps57
  go_wp2
  go_loopw [3, 4] (fun x i wr => ∃ j : Nat, j ≤ m ∧ i = .int .i64 j ∧ x = .int .i64 (numK l k j) ∧ wr = w) (fun _ i _ => m - (intOf i).toNat)
  case atStart => exact ⟨0, by omega, rfl, by rw [HZ.out], rfl⟩
  case round =>
    obtain ⟨j, hj, rfl, rfl, rfl⟩ := hrel
    by_cases hlt : j < m
    · obtain ⟨a0, x0, x1⟩ := read_at HL.out HB.out (k + j) (by omega)
      rw [← Nat.add_assoc] at a0
      generalize hx : l.getD (k + j) 0 = x at a0 x0 x1
      have HS := Lib.hid (num_stepR l k j HB.out (by omega) hx x0 x1)
      go_wp2
      go_roundw
      case rel => exact ⟨j + 1, by omega, by go_num, by rw [HS.out], by first | trivial | rfl⟩
      case measure => simp [intOf]; omega
    · have : j = m := by omega
      subst this
      go_wp2
      go_ret
      exact ⟨rfl, Below.refl _ _⟩
/-- The bits below i. -/
def low (v : BitVec 128) (i : Nat) : BitVec 128 := v &&& BitVec.ofNat 128 (2 ^ i - 1)
theorem low_bit (v : BitVec 128) (i t : Nat) : (low v i).getLsbD t = (v.getLsbD t && decide (t < i)) := by
  unfold low
  rw [BitVec.getLsbD_and, BitVec.getLsbD_ofNat, Nat.testBit_two_pow_sub_one]
  by_cases h : t < 128
  · simp [h]
  · rw [BitVec.getLsbD_of_ge _ _ (by omega)]; simp
theorem low_zero (v : BitVec 128) : low v 0 = 0#128 := by
  apply BitVec.eq_of_getLsbD_eq; intro t _; rw [low_bit]; simp
theorem low_no {v : BitVec 128} {i : Nat} (h : v.getLsbD i = false) : low v (i + 1) = low v i := by
  apply BitVec.eq_of_getLsbD_eq
  intro t _
  rw [low_bit, low_bit]
  by_cases e : t = i
  · subst e; rw [h]; simp
  · have : decide (t < i + 1) = decide (t < i) := by by_cases h2 : t < i <;> simp [h2] <;> omega
    rw [this]
theorem low_yes {v : BitVec 128} {i : Nat} (h : v.getLsbD i = true) (hi : i < 128) : low v (i + 1) = low v i ||| Ear.one i := by
  apply BitVec.eq_of_getLsbD_eq
  intro t ht
  rw [low_bit, BitVec.getLsbD_or, low_bit, Ear.one_bit]
  by_cases e : t = i
  · subst e; rw [h]; simp [ht]
  · have h1 : decide (t < i + 1) = decide (t < i) := by by_cases h2 : t < i <;> simp [h2] <;> omega
    rw [h1, decide_eq_false e]
    simp
theorem low_all {v : BitVec 128} {i : Nat} (h : ∀ t, v.getLsbD t = true → t < i) : low v i = v := by
  apply BitVec.eq_of_getLsbD_eq
  intro t _
  rw [low_bit]
  cases hc : v.getLsbD t with
  | false => rfl
  | true => simp [h t hc]
theorem low_clean (v : BitVec 128) {i : Nat} (h : i ≤ 100) : Ear.clean (low v i) = low v i := by
  apply BitVec.eq_of_getLsbD_eq
  intro t _
  rw [Ear.clean_bit, low_bit]
  by_cases h1 : t < i
  · have : t < 100 := by omega
    simp [h1, this]
  · simp [h1]
theorem shr_bit {x : Int} (x0 : 0 ≤ x) (x1 : x < 256) (b : Nat) (hb : b < 8) : (Go.bits .and .u8 (x / 2 ^ b) 1 == 1) = (BitVec.ofInt 128 x).getLsbD b := by
  obtain ⟨a, rfl⟩ : ∃ a : Nat, x = a := ⟨x.toNat, by omega⟩
  have e : ((a : Int) / 2 ^ b) = ((a / 2 ^ b : Nat) : Int) := by simp
  have h1 : a / 2 ^ b ≤ a := Nat.div_le_self _ _
  rw [e, show (1 : Int) = ((1 : Nat) : Int) from rfl, u8_and_nat _ _ (by omega) (by omega), Nat.and_one_is_mod, BitVec.ofInt_natCast, BitVec.getLsbD_ofNat]
  have h2 : b < 128 := by omega
  have h3 : a.testBit b = decide (a / 2 ^ b % 2 = 1) := by rw [Nat.testBit_eq_decide_div_mod_eq]
  rw [h3]
  simp only [h2, decide_true, Bool.true_and]
  by_cases h4 : a / 2 ^ b % 2 = 1
  · rw [h4]; rfl
  · have h5 : a / 2 ^ b % 2 = 0 := by omega
    rw [h5]; rfl
theorem not_within {v : BitVec 128} {n : Int} {i : Nat} (h2 : n ≤ 100) (hi : v.getLsbD i = true) (hn : n ≤ i) : withinW v n = false := by
  cases h : withinW v n with
  | false => rfl
  | true => have := (within_clean h2 h).2 i hi; omega
theorem is_within {v : BitVec 128} {n : Int} (h1 : 1 ≤ n) (h2 : n ≤ 100) (h : ∀ t, v.getLsbD t = true → (t : Int) < n) : withinW v n = true := by
  unfold withinW
  rw [decide_eq_true_eq]
  apply BitVec.eq_of_getLsbD_eq
  intro t ht
  have hc100 : Ear.clampN n ≤ 100 := by unfold Ear.clampN; split; omega; split <;> omega
  rw [BitVec.getLsbD_and, Ear.full_bit _ _ hc100]
  cases hc : v.getLsbD t with
  | false => rfl
  | true =>
    have := h t hc
    have h3 : t < Ear.clampN n := by unfold Ear.clampN; rw [if_neg (by omega), if_neg (by omega)]; omega
    simp [h3]
set_option maxRecDepth 100000 in
set_option maxHeartbeats 1000000 in
theorem RPut_calls (v : BitVec 128) (k : Nat) (hk : k < 100) (hv : Ear.clean v = v) (w : World) : Calls Try.prog 58 #[.agg #[.int .u32 (Ear.wd (v) 0), .int .u32 (Ear.wd (v) 1), .int .u32 (Ear.wd (v) 2), .int .u32 (Ear.wd (v) 3)], .int .i64 (k : Int)] w fun e w' => e = .returned (.agg #[.int .u32 (Ear.wd (v ||| Ear.one k) 0), .int .u32 (Ear.wd (v ||| Ear.one k) 1), .int .u32 (Ear.wd (v ||| Ear.one k) 2), .int .u32 (Ear.wd (v ||| Ear.one k) 3)]) ∧ Below w.heap.size w w' := by
  have hw := RWith_yes v k hk
  rw [hv] at hw
  go_enter Try.func58, Try.ntmps58
  go_wp2_with (go_at_call 65; (with_reducible refine Calls.mono (hw _) ?_); rintro e w1 ⟨rfl, hb1⟩; have hB' : Below w.heap.size w w1 := Below.trans (by (repeat' (first | (with_reducible exact Below.refl _ _) | (with_reducible assumption) | (show Below 0 _ _; with_reducible refine Below.mono (by assumption) (Nat.zero_le _)) | (with_reducible refine below_setRow ?_ ?_ _) | (with_reducible refine Below.alloc ?_ ?_ _) | (with_reducible refine Below.drew ?_) | (with_reducible refine Below.setCell ?_ ?_ _) | (with_reducible refine Below.frame ?_ _) | (with_reducible exact Nat.le_refl _) | omega | (simp only [World.size_alloc, World.size_setCell, World.size_drew, setRow_size]; omega) | (simp; omega) | (simp; done)))) (hb1.mono (by (try simp only [World.size_alloc, World.size_setCell, World.size_drew, setRow_size]); omega)); have hx' := (show Ear.Blk w1 (w.heap.size) _ _ from by (repeat' (first | (show Ear.Blk _ _ _ _; with_reducible assumption) | (with_reducible exact Ear.Blk.new _ _ _) | (with_reducible refine Ear.Blk.new' ?_; (simp only [World.size_alloc, World.size_setCell, World.size_drew, setRow_size]; done)) | (with_reducible apply Ear.Blk.alloc) | (with_reducible apply Ear.Blk.drew) | (with_reducible apply Ear.Blk.setC) | (with_reducible apply Ear.Blk.setC' (e := by omega)) | (with_reducible apply Ear.Blk.rowC (e := by first | rfl | omega)) | (with_reducible apply Ear.Blk.otherRow) | (with_reducible apply Ear.Blk.other) | (with_reducible apply Ear.Blk.below (hb := hb1)) | (show _ ≠ _; (try simp only [World.size_alloc, World.size_setCell, World.size_drew, setRow_size]); omega) | (show _ < _; (try simp only [World.size_alloc, World.size_setCell, World.size_drew, setRow_size]); omega)))); have hr' := (show Ear.Blk w1 (w.heap.size + 1) _ _ from by (repeat' (first | (show Ear.Blk _ _ _ _; with_reducible assumption) | (with_reducible exact Ear.Blk.new _ _ _) | (with_reducible refine Ear.Blk.new' ?_; (simp only [World.size_alloc, World.size_setCell, World.size_drew, setRow_size]; done)) | (with_reducible apply Ear.Blk.alloc) | (with_reducible apply Ear.Blk.drew) | (with_reducible apply Ear.Blk.setC) | (with_reducible apply Ear.Blk.setC' (e := by omega)) | (with_reducible apply Ear.Blk.rowC (e := by first | rfl | omega)) | (with_reducible apply Ear.Blk.otherRow) | (with_reducible apply Ear.Blk.other) | (with_reducible apply Ear.Blk.below (hb := hb1)) | (show _ ≠ _; (try simp only [World.size_alloc, World.size_setCell, World.size_drew, setRow_size]); omega) | (show _ < _; (try simp only [World.size_alloc, World.size_setCell, World.size_drew, setRow_size]); omega)))); clear hb1; (try clear hx_l); (try clear hx_c); (try clear hx_f); (try clear hx); have hx := hx'; clear hx'; (try simp only [List.set_cons_zero, List.set_cons_succ] at hx); have hx_l := hx.lt; have hx_c := hx.cell; have hx_f := hx.frozen; (try clear hr_l); (try clear hr_c); (try clear hr_f); (try clear hr); have hr := hr'; clear hr'; (try simp only [List.set_cons_zero, List.set_cons_succ] at hr); have hr_l := hr.lt; have hr_c := hr.cell; have hr_f := hr.frozen; (try clear hB hs); have hB := hB'; clear hB'; have hs := hB.size)
  refine Ear.bp_world (Ear.Sh w.heap.size w [(w.heap.size + 1, _, _)]) (.cons (by (repeat' (first | (show Ear.Blk _ _ _ _; with_reducible assumption) | (with_reducible exact Ear.Blk.new _ _ _) | (with_reducible refine Ear.Blk.new' ?_; (simp only [World.size_alloc, World.size_setCell, World.size_drew, setRow_size]; done)) | (with_reducible apply Ear.Blk.alloc) | (with_reducible apply Ear.Blk.drew) | (with_reducible apply Ear.Blk.setC) | (with_reducible apply Ear.Blk.setC' (e := by omega)) | (with_reducible apply Ear.Blk.rowC (e := by first | rfl | omega)) | (with_reducible apply Ear.Blk.otherRow) | (with_reducible apply Ear.Blk.other) | (show _ ≠ _; (try simp only [World.size_alloc, World.size_setCell, World.size_drew, setRow_size]); omega) | (show _ < _; (try simp only [World.size_alloc, World.size_setCell, World.size_drew, setRow_size]); omega)))) (.nil (by (repeat' (first | (with_reducible exact Below.refl _ _) | (with_reducible assumption) | (show Below 0 _ _; with_reducible refine Below.mono (by assumption) (Nat.zero_le _)) | (with_reducible refine below_setRow ?_ ?_ _) | (with_reducible refine Below.alloc ?_ ?_ _) | (with_reducible refine Below.drew ?_) | (with_reducible refine Below.setCell ?_ ?_ _) | (with_reducible refine Below.frame ?_ _) | (with_reducible exact Nat.le_refl _) | omega | (simp only [World.size_alloc, World.size_setCell, World.size_drew, setRow_size]; omega) | (simp; omega) | (simp; done)))))) ?_; (try clear hr_l); (try clear hr_c); (try clear hr_f); (try clear hr); (try clear hB hs); rintro w2 ⟨hr, hB⟩; replace hB : Below w.heap.size w w2 := hB; have hs := hB.size; (try simp only [List.set_cons_zero, List.set_cons_succ] at hr); have hr_l := hr.lt; have hr_c := hr.cell; have hr_f := hr.frozen
  refine bodyPost_ret (v := .agg #[.int .u32 (Ear.wd (v ||| Ear.one k) 0), .int .u32 (Ear.wd (v ||| Ear.one k) 1), .int .u32 (Ear.wd (v ||| Ear.one k) 2), .int .u32 (Ear.wd (v ||| Ear.one k) 3)]) (by simp [results, Try.results58, go_sem, *]) rfl ⟨rfl, hB⟩
end Go.Proofs.Ytklfkfnckdeifaa
