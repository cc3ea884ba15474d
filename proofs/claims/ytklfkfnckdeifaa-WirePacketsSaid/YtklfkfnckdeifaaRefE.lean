/-
  What Count, Least, Nth, Subset, Order, Within, Of, Full of the document's answer come to.
-/
import Derived.Test.YtklfkfnckdeifaaIter
import Derived.WalkKit
import Derived.LoopTactic
import Derived.WalkSpells
import Derived.WalkLawsBesides
import Derived.Handy
import Derived.Lib.Hide
namespace Go.Proofs.Ytklfkfnckdeifaa
set_option linter.unusedSimpArgs false
set_option linter.unusedVariables false
open Go.RowKit
attribute [local go_sem] rowL_len storeNew
attribute [local irreducible] Ear.wd Ear.one Ear.clean
theorem ids_len (v : BitVec 128) : (ids v).length = Ear.cnt128 (Ear.clean v) := by
  unfold ids idsTo
  rw [List.length_map, ← List.countP_eq_length_filter]
  unfold Ear.cnt128
  have h128 := Ear.cnt_add 100 28 (Ear.clean v).getLsbD
  have e128 : Ear.cnt 128 (Ear.clean v).getLsbD = Ear.cnt (100 + 28) (Ear.clean v).getLsbD := rfl
  rw [e128, h128]
  have h1 : Ear.cnt 100 (Ear.clean v).getLsbD = (List.range 100).countP v.getLsbD := by
    unfold Ear.cnt
    apply List.countP_congr
    intro i hi
    rw [Ear.clean_bit]
    have := List.mem_range.1 hi
    simp [this]
  have h2 : Ear.cnt 28 (fun i => (Ear.clean v).getLsbD (100 + i)) = 0 := by
    unfold Ear.cnt
    rw [List.countP_eq_zero]
    intro i _
    rw [Ear.clean_bit]
    simp
  rw [h1, h2]
  rfl

theorem clean_full (k : Nat) (h : k ≤ 100) : Ear.clean (Ear.full k) = Ear.full k := by
  apply BitVec.eq_of_getLsbD_eq
  intro i hi
  rw [Ear.clean_bit, Ear.full_bit _ _ h]
  by_cases h1 : i < k
  · simp [h1]; omega
  · simp [h1]
theorem cnt_zero_iff (v : BitVec 128) : Ear.cnt128 v = 0 ↔ v = 0#128 := by
  unfold Ear.cnt128 Ear.cnt
  rw [List.countP_eq_zero]
  constructor
  · intro h
    apply BitVec.eq_of_getLsbD_eq
    intro i hi
    have := h i (List.mem_range.2 hi)
    simpa using this
  · rintro rfl i _
    simp

def ofR (l : List Int) : Nat → Bool := fun j => l.contains (j : Int)
theorem ofR_snocB (l : List Int) (i j : Nat) : ofR (l ++ [(i : Int)]) j = (ofR l j || decide (j = i)) := by
  have h1 : decide ((j : Int) = (i : Int)) = decide (j = i) := by rw [decide_eq_decide]; omega
  unfold ofR
  rw [Bool.eq_iff_iff]
  simp only [List.contains_eq_mem, List.mem_append, List.mem_singleton, Bool.or_eq_true, decide_eq_true_eq]
  constructor
  · rintro (h | h)
    · exact .inl h
    · exact .inr (by omega)
  · rintro (h | h)
    · exact .inl h
    · exact .inr (by omega)
theorem ofR_snoc (l : List Int) (i : Nat) : (fun j => if j = i then true else ofR l j) = ofR (l ++ [(i : Int)]) := by
  funext j
  rw [ofR_snocB]
  by_cases h : j = i <;> simp [h]
theorem ofL_bits (l : List Int) (h : okL l) (j : Nat) (hj : j < 128) : ∀ k, k ≤ l.length → (ofL (l.take k)).getLsbD j = ofR (l.take k) j := by
  intro k
  induction k with
  | zero => intro _; simp [ofL, ofR]
  | succ k ih =>
    intro hk
    have ht := take_snocI l k hk
    have hx := h l[k] (List.getElem_mem hk)
    obtain ⟨i, hi⟩ := Int.eq_ofNat_of_zero_le hx.1
    rw [ht, hi, ofL_snoc, ofR_snocB, BitVec.getLsbD_or, Ear.clean_bit, Ear.one_bit, ih (by omega)]
    have hi' : i < 100 := by omega
    by_cases hj1 : j < 100
    · simp [hj1, show i < 128 by omega]
    · have h1 : ofR (l.take k) j = false := by
        unfold ofR
        rw [Bool.eq_false_iff]
        intro hc
        rw [List.contains_eq_mem, decide_eq_true_eq] at hc
        have := h _ (List.mem_of_mem_take hc)
        omega
      have h2 : ¬ j = i := by omega
      simp [h1, h2]
theorem ofR_bits {l : List Int} (h : okL l) (j : Nat) (hj : j < 100) : ofR l j = (ofL l).getLsbD j := by
  have := ofL_bits l h j (by omega) l.length (by omega)
  rw [List.take_length] at this
  exact this.symm
theorem ofL_clean {l : List Int} (h : okL l) : Ear.clean (ofL l) = ofL l := by
  apply BitVec.eq_of_getLsbD_eq
  intro i hi
  have := ofL_bits l h i hi l.length (by omega)
  rw [List.take_length] at this
  rw [Ear.clean_bit, this]
  by_cases hj1 : i < 100
  · simp [hj1]
  · have h1 : ofR l i = false := by
      unfold ofR
      rw [Bool.eq_false_iff]
      intro hc
      rw [List.contains_eq_mem, decide_eq_true_eq] at hc
      have := h _ hc
      omega
    simp [h1]

/-- Within, as the loop finds it. -/
def okBits (v : BitVec 128) (n : Int) (k : Nat) : Prop := ∀ i, i < k → v.getLsbD i = true → (i : Int) < n ∧ i < 100
theorem within_iff (v : BitVec 128) (n : Int) : okBits v n 128 ↔ v &&& Ear.full (Ear.clampN n) = v := by
  have hc : Ear.clampN n ≤ 100 := by unfold Ear.clampN; split <;> (try split) <;> omega
  constructor
  · intro h
    apply BitVec.eq_of_getLsbD_eq
    intro i hi
    rw [BitVec.getLsbD_and, Ear.full_bit _ _ hc]
    cases hv : v.getLsbD i
    · rfl
    · have := h i hi hv
      have : i < Ear.clampN n := by unfold Ear.clampN; split <;> (try split) <;> omega
      simp [this]
  · intro h i hi hv
    rw [← h, BitVec.getLsbD_and, Ear.full_bit _ _ hc, Bool.and_eq_true, decide_eq_true_eq] at hv
    have := hv.2
    unfold Ear.clampN at this
    split at this <;> (try split at this) <;> omega
set_option maxRecDepth 100000 in
set_option maxHeartbeats 2000000 in
theorem RWithin_calls (v : BitVec 128) (n : Int) (w : World) : Calls Try.prog 38 #[.agg #[.int .u32 (Ear.wd (v) 0), .int .u32 (Ear.wd (v) 1), .int .u32 (Ear.wd (v) 2), .int .u32 (Ear.wd (v) 3)], .int .i64 n] w fun e w' => e = .returned (.bool (decide (v &&& Ear.full (Ear.clampN n) = v))) ∧ Below w.heap.size w w' := by
  go_enter Try.func38, Try.ntmps38
  go_wp2
  go_loopw [5] (fun i wr => ∃ k : Nat, k ≤ 128 ∧ i = .int .i64 k ∧ Hid (okBits v n k) ∧ Ear.Sh w.heap.size w [(w.heap.size, 30, [.int .u32 (Ear.wd (v) 0), .int .u32 (Ear.wd (v) 1), .int .u32 (Ear.wd (v) 2), .int .u32 (Ear.wd (v) 3)])] wr) (fun i _ => 128 - (intOf i).toNat)
  case atStart =>
    refine ⟨0, by omega, rfl, (fun i hi => by omega), .cons (by (repeat' (first | (show Ear.Blk _ _ _ _; with_reducible assumption) | (with_reducible exact Ear.Blk.new _ _ _) | (with_reducible refine Ear.Blk.new' ?_; (simp only [World.size_alloc, World.size_setCell, World.size_drew, setRow_size]; done)) | (with_reducible apply Ear.Blk.alloc) | (with_reducible apply Ear.Blk.drew) | (with_reducible apply Ear.Blk.setC) | (with_reducible apply Ear.Blk.setC' (e := by omega)) | (with_reducible apply Ear.Blk.rowC (e := by first | rfl | omega)) | (with_reducible apply Ear.Blk.otherRow) | (with_reducible apply Ear.Blk.other) | (show _ ≠ _; (try simp only [World.size_alloc, World.size_setCell, World.size_drew, setRow_size]); omega) | (show _ < _; (try simp only [World.size_alloc, World.size_setCell, World.size_drew, setRow_size]); omega)))) (.nil (by (repeat' (first | (with_reducible exact Below.refl _ _) | (with_reducible assumption) | (show Below 0 _ _; with_reducible refine Below.mono (by assumption) (Nat.zero_le _)) | (with_reducible refine below_setRow ?_ ?_ _) | (with_reducible refine Below.alloc ?_ ?_ _) | (with_reducible refine Below.drew ?_) | (with_reducible refine Below.setCell ?_ ?_ _) | (with_reducible refine Below.frame ?_ _) | (with_reducible exact Nat.le_refl _) | omega | (simp only [World.size_alloc, World.size_setCell, World.size_drew, setRow_size]; omega) | (simp; omega) | (simp; done)))))⟩
  case round =>
    obtain ⟨k, hk, rfl, hok, hr, hB⟩ := hrel
    replace hB : Below w.heap.size w _ := hB
    have hs := hB.size
    have hr_l := hr.lt
    by_cases hlt : k < 128
    · have hc := sel_at hr k (by omega)
      have HB := has_bitN v k (by omega)
      obtain ⟨b, hb⟩ : ∃ b, v.getLsbD k = b := ⟨_, rfl⟩
      rw [hb] at HB
      have HV := Lib.hid hb
      clear hb
      cases b
      · go_wp2
        go_roundw
        case rel =>
          refine ⟨k + 1, hlt, by go_num, ?_, .cons (by (repeat' (first | (show Ear.Blk _ _ _ _; with_reducible assumption) | (with_reducible exact Ear.Blk.new _ _ _) | (with_reducible refine Ear.Blk.new' ?_; (simp only [World.size_alloc, World.size_setCell, World.size_drew, setRow_size]; done)) | (with_reducible apply Ear.Blk.alloc) | (with_reducible apply Ear.Blk.drew) | (with_reducible apply Ear.Blk.setC) | (with_reducible apply Ear.Blk.setC' (e := by omega)) | (with_reducible apply Ear.Blk.rowC (e := by first | rfl | omega)) | (with_reducible apply Ear.Blk.otherRow) | (with_reducible apply Ear.Blk.other) | (show _ ≠ _; (try simp only [World.size_alloc, World.size_setCell, World.size_drew, setRow_size]); omega) | (show _ < _; (try simp only [World.size_alloc, World.size_setCell, World.size_drew, setRow_size]); omega)))) (.nil (by (repeat' (first | (with_reducible exact Below.refl _ _) | (with_reducible assumption) | (show Below 0 _ _; with_reducible refine Below.mono (by assumption) (Nat.zero_le _)) | (with_reducible refine below_setRow ?_ ?_ _) | (with_reducible refine Below.alloc ?_ ?_ _) | (with_reducible refine Below.drew ?_) | (with_reducible refine Below.setCell ?_ ?_ _) | (with_reducible refine Below.frame ?_ _) | (with_reducible exact Nat.le_refl _) | omega | (simp only [World.size_alloc, World.size_setCell, World.size_drew, setRow_size]; omega) | (simp; omega) | (simp; done)))))⟩
          intro i hi hv
          by_cases hik : i = k
          · subst hik; rw [HV.out] at hv; cases hv
          · exact hok.out i (by omega) hv
        case measure => simp [intOf]; omega
      · by_cases hgood : (k : Int) < n ∧ k < 100
        · obtain ⟨hg1, hg2⟩ := hgood
          go_wp2
          go_roundw
          case rel =>
            refine ⟨k + 1, hlt, by go_num, ?_, .cons (by (repeat' (first | (show Ear.Blk _ _ _ _; with_reducible assumption) | (with_reducible exact Ear.Blk.new _ _ _) | (with_reducible refine Ear.Blk.new' ?_; (simp only [World.size_alloc, World.size_setCell, World.size_drew, setRow_size]; done)) | (with_reducible apply Ear.Blk.alloc) | (with_reducible apply Ear.Blk.drew) | (with_reducible apply Ear.Blk.setC) | (with_reducible apply Ear.Blk.setC' (e := by omega)) | (with_reducible apply Ear.Blk.rowC (e := by first | rfl | omega)) | (with_reducible apply Ear.Blk.otherRow) | (with_reducible apply Ear.Blk.other) | (show _ ≠ _; (try simp only [World.size_alloc, World.size_setCell, World.size_drew, setRow_size]); omega) | (show _ < _; (try simp only [World.size_alloc, World.size_setCell, World.size_drew, setRow_size]); omega)))) (.nil (by (repeat' (first | (with_reducible exact Below.refl _ _) | (with_reducible assumption) | (show Below 0 _ _; with_reducible refine Below.mono (by assumption) (Nat.zero_le _)) | (with_reducible refine below_setRow ?_ ?_ _) | (with_reducible refine Below.alloc ?_ ?_ _) | (with_reducible refine Below.drew ?_) | (with_reducible refine Below.setCell ?_ ?_ _) | (with_reducible refine Below.frame ?_ _) | (with_reducible exact Nat.le_refl _) | omega | (simp only [World.size_alloc, World.size_setCell, World.size_drew, setRow_size]; omega) | (simp; omega) | (simp; done)))))⟩
            intro i hi hv
            by_cases hik : i = k
            · subst hik; exact ⟨hg1, hg2⟩
            · exact hok.out i (by omega) hv
          case measure => simp [intOf]; omega
        · have hbad : ¬ okBits v n 128 := fun h => hgood (h k hlt HV.out)
          rw [within_iff] at hbad
          have HBAD := Lib.hid hbad
          have hg1 : n ≤ k ∨ ((k : Int) < n ∧ 100 ≤ k) := by omega
          clear hbad hgood
          rcases hg1 with hg | ⟨hg, hg'⟩
          all_goals
            go_wp2
            go_ret
            exact ⟨by rw [decide_eq_false HBAD.out]; rfl, hB⟩
    · have hk' : k = 128 := by omega
      subst hk'
      have hw := (within_iff v n).1 hok.out
      have HW := Lib.hid hw
      clear hw
      go_wp2
      go_ret
      exact ⟨by rw [decide_eq_true HW.out]; rfl, hB⟩
end Go.Proofs.Ytklfkfnckdeifaa
