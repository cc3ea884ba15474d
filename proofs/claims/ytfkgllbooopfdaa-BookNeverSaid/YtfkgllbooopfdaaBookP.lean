/-
  What is taken twice is taken once, as data.
-/
import Derived.Test.YtfkgllbooopfdaaBookE
namespace Go.Proofs.Ytfkgllbooopfdaa
set_option linter.unusedSimpArgs false
set_option linter.unusedVariables false
theorem takeN_no {L : List Nt} {x : Nt} (h : takeB L x = false) : takeN L x = L := by unfold takeN; rw [if_neg (by rw [h]; decide)]
theorem take_rank {L : List Nt} {x : Nt} (h : takeB L x = true) : ∃ (i : Nat) (hi : i < L.length), x.of_ = (i : Int) ∧ validN L.length x = true ∧ rankN L[i] < rankN x := by
  have hb := takeB_of h
  unfold takeB at h
  simp only [Bool.and_eq_true] at h
  obtain ⟨hv, h2⟩ := h
  have hi : x.of_.toNat < L.length := by omega
  rw [List.getElem?_eq_getElem hi] at h2
  unfold beatsN at h2
  simp only [Bool.and_eq_true, decide_eq_true_eq] at h2
  exact ⟨x.of_.toNat, hi, by omega, hv, h2.2⟩
theorem taken {L : List Nt} (hL : BookOk L) (l : List Nt) : ∀ x ∈ l, takeB (takesN L l) x = false := by
  intro x hx
  cases ht : takeB (takesN L l) x with
  | false => rfl
  | true =>
    exfalso
    obtain ⟨i, hi, ho, hv, hr⟩ := take_rank ht
    have hi' : i < L.length := by rw [takesN_len] at hi; exact hi
    rw [takesN_len] at hv
    have := (takesN_char hL l i hi').2.2 x hx hv ho
    omega
theorem own_list {L : List Nt} (hL : BookOk L) : ∀ x ∈ L, takeB L x = false := by
  intro x hx
  cases ht : takeB L x with
  | false => rfl
  | true =>
    exfalso
    obtain ⟨i, hi, ho, -, hr⟩ := take_rank ht
    obtain ⟨j, hj, rfl⟩ := List.getElem_of_mem hx
    have := (hL.each j hj).1
    have hij : i = j := by omega
    subst hij
    omega
theorem no_takes {M : List Nt} : ∀ (m : List Nt), (∀ x ∈ m, takeB M x = false) → takesN M m = M ∧ ∀ s, chg M m s = s
  | [], _ => ⟨rfl, fun _ => rfl⟩
  | a :: m, h => by
    have ha := h a List.mem_cons_self
    have hm := no_takes m (fun x hx => h x (List.mem_cons_of_mem _ hx))
    have hn := takeN_no ha
    refine ⟨?_, fun s => ?_⟩
    · rw [show takesN M (a :: m) = takesN (takeN M a) m from rfl, hn]; exact hm.1
    · simp only [chg, ha, hn]
      exact hm.2 s
theorem own_valid {L : List Nt} (hL : BookOk L) : mergeOk L.length L = true := by
  unfold mergeOk
  rw [List.all_eq_true]
  intro x hx
  obtain ⟨j, hj, rfl⟩ := List.getElem_of_mem hx
  obtain ⟨h1, h2⟩ := hL.each j hj
  exact valid_of hL.pos hL.most (by omega) (by omega) h2
end Go.Proofs.Ytfkgllbooopfdaa
