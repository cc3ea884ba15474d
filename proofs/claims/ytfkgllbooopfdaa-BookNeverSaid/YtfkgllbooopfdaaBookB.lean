/-
  A row of notices in memory, turned in place.
-/
import Derived.Test.YtfkgllbooopfdaaBookM
import Derived.Test.YtfkgllbooopfdaaKeep
namespace Go.Proofs.Ytfkgllbooopfdaa
set_option linter.unusedSimpArgs false
set_option linter.unusedVariables false
open Go.RowKit
theorem own_put {w : World} {b e s n cap g i : Nat} {v : Value} {xs : List Value} (h : w.ownsRow b e s (.slice (some ⟨g, 0, none⟩) n cap) n xs) : (w.setCell ⟨g, i, none⟩ v).ownsRow b e s (.slice (some ⟨g, 0, none⟩) n cap) n (xs.set i v) := by
  obtain ⟨hl, ⟨hv, -⟩ | ⟨g', cap', cur, hv, hb, hc, h1, h2, h3, h4⟩⟩ := h
  · cases hv
  · simp only [Value.slice.injEq, Option.some.injEq, Addr.mk.injEq] at hv
    obtain ⟨⟨rfl, -, -⟩, -, rfl⟩ := hv
    have hB : Ear.Blk w g e cur.toList := by unfold Ear.Blk; simpa using hc
    have hB' := hB.set i v
    refine ⟨by simp [hl], .inr ⟨g, cap, (cur.toList.set i v).toArray, rfl, hb, hB', h1, h2, by simp [h3], ?_⟩⟩
    rw [← h4, List.take_set]
def ntV (x : Nt) : List Value := [.int .i64 x.of_, .int .i64 x.tag, .int .i64 x.kind]
def ntsV (L : List Nt) : List Value := L.flatMap ntV
theorem ntsV_len (L : List Nt) : (ntsV L).length = L.length * 3 := by
  induction L with
  | nil => rfl
  | cons x t ih => simp only [ntsV, List.flatMap_cons, List.length_append, List.length_cons, ntV, List.length_nil] at ih ⊢; omega
theorem ntsV_cons (x : Nt) (L : List Nt) : ntsV (x :: L) = .int .i64 x.of_ :: .int .i64 x.tag :: .int .i64 x.kind :: ntsV L := by simp [ntsV, ntV]
theorem ntsV_snoc (L : List Nt) (x : Nt) : ntsV (L ++ [x]) = ntsV L ++ ntV x := by simp [ntsV]
theorem ntsV_get (L : List Nt) (i j : Nat) (hi : i < L.length) (hj : j < 3) : (ntsV L)[i * 3 + j]? = (ntV L[i])[j]? := by
  induction L generalizing i with
  | nil => simp at hi
  | cons x t ih =>
    rw [ntsV_cons]
    cases i with
    | zero =>
      rw [Nat.zero_mul, Nat.zero_add]
      rcases (by omega : j = 0 ∨ j = 1 ∨ j = 2) with rfl | rfl | rfl <;> rfl
    | succ i =>
      rw [show (i + 1) * 3 + j = (i * 3 + j) + 1 + 1 + 1 by omega]
      simp only [List.getElem?_cons_succ, List.getElem_cons_succ]
      exact ih i (by simpa using hi)
theorem ntsV_set (L : List Nt) (i : Nat) (x : Nt) (hi : i < L.length) : ntsV (L.set i x) = (((ntsV L).set (i * 3) (.int .i64 x.of_)).set (i * 3 + 1) (.int .i64 x.tag)).set (i * 3 + 2) (.int .i64 x.kind) := by
  induction L generalizing i with
  | nil => simp at hi
  | cons y t ih =>
    cases i with
    | zero => simp only [List.set_cons_zero, ntsV_cons, Nat.zero_mul, Nat.zero_add, List.set_cons_succ]
    | succ i =>
      rw [show (i + 1) * 3 = i * 3 + 1 + 1 + 1 by omega]
      rw [show i * 3 + 1 + 1 + 1 + 1 = (i * 3 + 1) + 1 + 1 + 1 by omega, show i * 3 + 1 + 1 + 1 + 2 = (i * 3 + 2) + 1 + 1 + 1 by omega]
      simp only [List.set_cons_succ, ntsV_cons]
      rw [ih i (by simpa using hi)]
/-- What a book turned in place reads. -/
theorem own_nt {w : World} {b e n cap g k : Nat} {L : List Nt} {x : Nt} (h : w.ownsRow b e 3 (.slice (some ⟨g, 0, none⟩) n cap) n (ntsV L)) (hk : k < L.length) :
    (((w.setCell ⟨g, k * 3, none⟩ (.int .i64 x.of_)).setCell ⟨g, k * 3 + 1, none⟩ (.int .i64 x.tag)).setCell ⟨g, k * 3 + 2, none⟩ (.int .i64 x.kind)).ownsRow b e 3 (.slice (some ⟨g, 0, none⟩) n cap) n (ntsV (L.set k x)) := by
  rw [ntsV_set L k x hk]
  exact own_put (own_put (own_put h))
end Go.Proofs.Ytfkgllbooopfdaa
