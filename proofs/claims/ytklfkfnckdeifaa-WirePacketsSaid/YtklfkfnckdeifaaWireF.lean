/-
  A form's bytes.
-/
import Derived.Test.YtklfkfnckdeifaaWireD
import Derived.Test.YtklfkfnckdeifaaWireE
import Derived.Deep.DeepCutAuto
namespace Go.Proofs.Ytklfkfnckdeifaa
set_option linter.unusedSimpArgs false
set_option linter.unusedVariables false
open Go.RowKit
attribute [local irreducible] Ear.Pl.wpQ Ear.Pa.wpQ Ear.Fe.wpQ Ear.Fa.wpQ sumP sumV digit putL setL by8 orL Ear.wd Ear.one Ear.clean riseFrom validN withinW
def headL (n kind from_ : Int) : List Int := [101, 115, kind, n, from_]
def noteL (x : Nt) : List Int := putL x.of_ 1 1 ++ putL x.kind 1 1 ++ putL x.tag 3 3
def newsL (L : List Nt) : List Int := L.flatMap noteL
theorem noteL_len (x : Nt) : (noteL x).length = 5 := by simp [noteL, putL_len]
theorem newsL_succ (L : List Nt) (k : Nat) (h : k < L.length) : newsL (L.take (k + 1)) = newsL (L.take k) ++ noteL L[k] := by
  unfold newsL; rw [List.take_succ_eq_append_getElem h, List.flatMap_append]; simp
theorem newsL_len (L : List Nt) : (newsL L).length = L.length * 5 := by
  induction L with
  | nil => rfl
  | cons x t ih => unfold newsL at ih ⊢; rw [List.flatMap_cons, List.length_append, ih, noteL_len, List.length_cons]; omega
/-- What stands ahead of the number of news. -/
def lineL (n kind from_ round : Int) (heard : BitVec 128) : List Int :=
  if kind = 3 then headL n kind from_ else if kind = 2 then (headL n kind from_ ++ putL round 5 5) ++ setL heard ((n.toNat + 7) / 8) else headL n kind from_ ++ putL round 5 5
/-- What stands ahead of the news. -/
def foreL (n kind from_ round : Int) (heard : BitVec 128) (k : Nat) : List Int := lineL n kind from_ round heard ++ putL (k : Int) 1 1
def bodyL (n kind from_ round : Int) (heard : BitVec 128) (L : List Nt) : List Int := foreL n kind from_ round heard L.length ++ newsL L
def bytesOf (n kind from_ round : Int) (heard : BitVec 128) (L : List Nt) : List Int := bodyL n kind from_ round heard L ++ putL (sumV (bodyL n kind from_ round heard L)) 4 4
theorem byteOk_append {l m : List Int} (h1 : byteOk l) (h2 : byteOk m) : byteOk (l ++ m) := by
  intro x hx
  rcases List.mem_append.1 hx with h | h
  · exact h1 x h
  · exact h2 x h
theorem byteOk_putL (x : Int) (n k : Nat) : byteOk (putL x n k) := by
  intro y hy
  unfold putL at hy
  obtain ⟨j, -, rfl⟩ := List.mem_map.1 hy
  unfold digit
  have h1 := Int.emod_nonneg (x / (2 ^ (8 * (n - 1 - j)) : Int)) (show (256 : Int) ≠ 0 by decide)
  have h2 := Int.emod_lt_of_pos (x / (2 ^ (8 * (n - 1 - j)) : Int)) (show (0 : Int) < 256 by decide)
  exact ⟨h1, h2⟩
theorem byteOk_setL (v : BitVec 128) (m : Nat) : byteOk (setL v m) := by
  intro y hy
  unfold setL at hy
  obtain ⟨j, -, rfl⟩ := List.mem_map.1 hy
  exact by8_in v j
theorem byteOk_headL {n kind from_ : Int} (h1 : 0 ≤ n ∧ n < 256) (h2 : 0 ≤ kind ∧ kind < 256) (h3 : 0 ≤ from_ ∧ from_ < 256) : byteOk (headL n kind from_) := by
  intro y hy
  unfold headL at hy
  simp only [List.mem_cons, List.not_mem_nil, or_false] at hy
  rcases hy with rfl | rfl | rfl | rfl | rfl <;> omega
theorem byteOk_newsL (L : List Nt) : byteOk (newsL L) := by
  intro y hy
  unfold newsL at hy
  obtain ⟨x, -, hx⟩ := List.mem_flatMap.1 hy
  unfold noteL at hx
  exact byteOk_append (byteOk_append (byteOk_putL _ _ _) (byteOk_putL _ _ _)) (byteOk_putL _ _ _) y hx
theorem byteOk_bodyL {n kind from_ : Int} (h1 : 0 ≤ n ∧ n < 256) (h2 : 0 ≤ kind ∧ kind < 256) (h3 : 0 ≤ from_ ∧ from_ < 256) (round : Int) (heard : BitVec 128) (L : List Nt) : byteOk (bodyL n kind from_ round heard L) := by
  have hh := byteOk_headL h1 h2 h3
  unfold bodyL foreL lineL
  refine byteOk_append (byteOk_append ?_ (byteOk_putL _ _ _)) (byteOk_newsL L)
  split
  · exact hh
  · split
    · exact byteOk_append (byteOk_append hh (byteOk_putL _ _ _)) (byteOk_setL _ _)
    · exact byteOk_append hh (byteOk_putL _ _ _)
theorem form_ok {n from_ round : Int} {heard : BitVec 128} {L : List Nt} (h : formE n from_ round heard L = 0) : 1 ≤ n ∧ n ≤ 100 ∧ 0 ≤ from_ ∧ from_ < n ∧ 1 ≤ round ∧ round ≤ 1099511627775 ∧ withinW heard n = true ∧ riseFrom n (-1) L = true := by
  unfold formE at h
  split at h
  · simp at h
  · split at h
    · simp at h
    · split at h
      · simp at h
      · split at h
        · simp at h
        · split at h
          · simp at h
          · rename_i h1 h2 h3 h4 h5
            exact ⟨by omega, by omega, by omega, by omega, by omega, by omega, by simpa using h4, by simpa using h5⟩
theorem within_clean {v : BitVec 128} {n : Int} (h2 : n ≤ 100) (h : withinW v n = true) : Ear.clean v = v ∧ ∀ i, v.getLsbD i = true → i < n.toNat := by
  unfold withinW at h
  rw [decide_eq_true_eq] at h
  have hc : Ear.clampN n ≤ 100 := by unfold Ear.clampN; split; omega; split <;> omega
  have hb : ∀ i, v.getLsbD i = true → i < Ear.clampN n := by
    intro i hi
    have := congrArg (fun x : BitVec 128 => x.getLsbD i) h
    simp only [BitVec.getLsbD_and, hi, Bool.true_and] at this
    rw [Ear.full_bit _ _ hc, decide_eq_true_eq] at this
    exact this
  constructor
  · apply BitVec.eq_of_getLsbD_eq
    intro i hi
    rw [Ear.clean_bit]
    cases hv : v.getLsbD i with
    | false => rfl
    | true => have := hb i hv; simp; omega
  · intro i hi
    have := hb i hi
    unfold Ear.clampN at this
    split at this
    · omega
    · split at this <;> omega
theorem rise_each {n : Int} : ∀ (L : List Nt) (last : Int), riseFrom n last L = true → (∀ x ∈ L, validN n x = true) ∧ (L.length : Int) ≤ max 0 (n - 1 - last)
  | [], _, _ => ⟨by simp, by simp; omega⟩
  | x :: t, last, h => by
    rw [rise_cons] at h
    simp only [Bool.and_eq_true, decide_eq_true_eq] at h
    obtain ⟨⟨h1, h2⟩, h3⟩ := h
    obtain ⟨r1, r2⟩ := rise_each t x.of_ h3
    have hv := of_valid h1
    refine ⟨fun y hy => ?_, ?_⟩
    · rcases List.mem_cons.1 hy with rfl | hy
      · exact h1
      · exact r1 y hy
    · rw [List.length_cons]; omega
end Go.Proofs.Ytklfkfnckdeifaa
