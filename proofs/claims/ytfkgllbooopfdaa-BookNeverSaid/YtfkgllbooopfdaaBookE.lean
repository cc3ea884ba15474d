/-
  Orders of notices, as data.
-/
import Derived.Test.YtfkgllbooopfdaaBookD
namespace Go.Proofs.Ytfkgllbooopfdaa
set_option linter.unusedSimpArgs false
set_option linter.unusedVariables false
theorem takesN_snoc (L l : List Nt) (x : Nt) : takesN L (l ++ [x]) = takeN (takesN L l) x := by simp [takesN]
theorem takesN_succ (L l : List Nt) (k : Nat) (h : k < l.length) : takesN L (l.take (k + 1)) = takeN (takesN L (l.take k)) l[k] := by
  rw [List.take_succ_eq_append_getElem h, takesN_snoc]
def rotL (l : List Nt) (k : Nat) : List Nt := l.drop k ++ l.take k
theorem rotL_len (l : List Nt) (k : Nat) (h : k ≤ l.length) : (rotL l k).length = l.length := by
  unfold rotL; rw [List.length_append, List.length_drop, List.length_take]; omega
theorem rotL_mem (l : List Nt) (k : Nat) (x : Nt) : x ∈ l ↔ x ∈ rotL l k := by
  unfold rotL
  rw [List.mem_append, or_comm, ← List.mem_append, List.take_append_drop]
theorem rotL_get (l : List Nt) (k i : Nat) (hk : k < l.length) (hi : i < l.length) : (rotL l k)[i]'(by rw [rotL_len l k (by omega)]; exact hi) = l[(i + k) % l.length]'(Nat.mod_lt _ (by omega)) := by
  unfold rotL
  by_cases h : i < l.length - k
  · rw [List.getElem_append_left (by rw [List.length_drop]; exact h), List.getElem_drop]
    congr 1
    rw [Nat.mod_eq_of_lt (by omega)]; omega
  · rw [List.getElem_append_right (by rw [List.length_drop]; omega), List.getElem_take]
    congr 1
    rw [List.length_drop, show i + k = (i - (l.length - k)) + l.length by omega, Nat.add_mod_right, Nat.mod_eq_of_lt (by omega)]
theorem rev_take (l : List Nt) (j : Nat) (h : j < l.length) : l.reverse.take (j + 1) = l.reverse.take j ++ [l[l.length - 1 - j]'(by omega)] := by
  rw [List.take_succ_eq_append_getElem (by rw [List.length_reverse]; exact h), List.getElem_reverse]
theorem order_same {L : List Nt} (hL : BookOk L) (l : List Nt) (k : Nat) : takesN L l = takesN L (rotL l k) ∧ takesN L l = takesN L l.reverse :=
  ⟨takesN_same hL (rotL_mem l k), takesN_same hL (fun x => List.mem_reverse.symm)⟩
end Go.Proofs.Ytfkgllbooopfdaa
