/-
  SameNotices, Rising, and the suspected nodes bit by bit.
-/
import Derived.Test.YtfnolmlmmimehaaBookX
namespace Go.Proofs.Ytfnolmlmmimehaa
set_option linter.unusedSimpArgs false
set_option linter.unusedVariables false
open Go.RowKit
attribute [local irreducible] Ear.Pl.wpQ Ear.Pa.wpQ Ear.Fe.wpQ Ear.Fa.wpQ
theorem withV_bit (s : BitVec 128) (k i : Nat) (hk : k < 100) : (withV s (k : Int)).getLsbD i = ((s.getLsbD i && decide (i < 100)) || decide (i = k)) := by
  unfold withV
  rw [if_pos (by omega), Int.toNat_natCast, BitVec.getLsbD_or, Ear.clean_bit, Ear.one_bit]
  simp [show k < 128 by omega]
def suspAt (L : List Nt) (i : Nat) : Bool := match L[i]? with | some y => y.kind == 2 | none => false
theorem susp_bit {L : List Nt} (hL : BookOk L) (k : Nat) (hk : k ≤ L.length) (i : Nat) : (suspOf (L.take k)).getLsbD i = (decide (i < k) && suspAt L i) := by
  have hm := hL.most
  induction k with
  | zero => rw [List.take_zero, suspOf_nil]; simp
  | succ k ih =>
    have hlt : k < L.length := by omega
    have ho := (hL.each k hlt).1
    rw [List.take_succ_eq_append_getElem hlt, suspOf_snoc, ho]
    have ihk := ih (by omega)
    have hs : suspAt L k = (L[k].kind == 2) := by unfold suspAt; rw [List.getElem?_eq_getElem hlt]
    by_cases hkd : L[k].kind = 2
    · rw [if_pos hkd, withV_bit _ _ _ (by omega), ihk]
      by_cases hik : i = k
      · subst hik; simp [hs, hkd]
      · have e1 : decide (i < k + 1) = decide (i < k) := by rw [decide_eq_decide]; omega
        by_cases h100 : i < 100
        · simp [hik, e1, h100]
        · have : ¬ i < k := by omega
          simp [hik, e1, this]
    · rw [if_neg hkd, ihk]
      by_cases hik : i = k
      · subst hik; simp [hs, hkd]
      · have e1 : decide (i < k + 1) = decide (i < k) := by rw [decide_eq_decide]; omega
        rw [e1]
theorem susp_has {L : List Nt} (hL : BookOk L) (k : Nat) (hk : k < L.length) : hasV (suspOf L) (k : Int) = (L[k].kind == 2) := by
  have h := susp_bit hL L.length (Nat.le_refl _) k
  rw [List.take_length] at h
  have hm := hL.most
  unfold hasV
  rw [if_pos (by omega), Int.toNat_natCast, h]
  unfold suspAt
  rw [List.getElem?_eq_getElem hk]
  simp [hk]
theorem susp_in {L : List Nt} (hL : BookOk L) : suspOf L &&& Ear.full (Ear.clampN (L.length : Int)) = suspOf L := by
  have hm := hL.most
  have hc : Ear.clampN (L.length : Int) = L.length := by unfold Ear.clampN; rw [if_neg (by omega), if_neg (by omega), Int.toNat_natCast]
  apply BitVec.eq_of_getLsbD_eq
  intro i hi
  have h := susp_bit hL L.length (Nat.le_refl _) i
  rw [List.take_length] at h
  rw [hc, BitVec.getLsbD_and, Ear.full_bit _ _ hm, h]
  by_cases hl : i < L.length <;> simp [hl]
theorem Within_is {v : BitVec 128} {n : Int} (h : v &&& Ear.full (Ear.clampN n) = v) (w : World) : Calls Try.prog 39 #[.agg #[.int .u32 (Ear.wd (v) 0), .int .u32 (Ear.wd (v) 1), .int .u32 (Ear.wd (v) 2), .int .u32 (Ear.wd (v) 3)], .int .i64 n] w fun e w' => e = .returned (.bool true) ∧ Below w.heap.size w w' := by
  have := Within_calls v n w
  rw [decide_eq_true h] at this
  exact this
/-- Are notices right, by rising nodes? -/
def riseFrom (n : Int) : Int → List Nt → Bool
  | _, [] => true
  | last, x :: l => validN n x && decide (last < x.of_) && riseFrom n x.of_ l
theorem rise_book {L : List Nt} (hL : BookOk L) (k : Nat) (hk : k ≤ L.length) : riseFrom L.length ((k : Int) - 1) (L.drop k) = true := by
  have hm := hL.most
  induction hd : L.length - k generalizing k with
  | zero =>
    have : L.drop k = [] := List.drop_of_length_le (by omega)
    rw [this]; rfl
  | succ m ih =>
    have hlt : k < L.length := by omega
    obtain ⟨ho, hr⟩ := hL.each k hlt
    rw [List.drop_eq_getElem_cons hlt]
    simp only [riseFrom]
    rw [valid_of hL.pos hm (by omega) (by omega) hr, ho]
    have := ih (k + 1) (by omega) (by omega)
    rw [show (((k + 1 : Nat) : Int) - 1) = (k : Int) by omega] at this
    rw [this]
    simp; omega
theorem rise_cons (n last : Int) (x : Nt) (l : List Nt) : riseFrom n last (x :: l) = (validN n x && decide (last < x.of_) && riseFrom n x.of_ l) := rfl
attribute [local irreducible] riseFrom validN
end Go.Proofs.Ytfnolmlmmimehaa
