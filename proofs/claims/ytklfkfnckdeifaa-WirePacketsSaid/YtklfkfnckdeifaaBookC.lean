/-
  What Merge of a book comes to, as data.
  Books in memory, side by side.
  Orders of notices, as data.
  What is taken twice is taken once, as data.
-/
import Derived.Test.YtklfkfnckdeifaaBookB
import Derived.Test.YtklfkfnckdeifaaVal
section
namespace Go.Proofs.Ytklfkfnckdeifaa
set_option linter.unusedSimpArgs false
set_option linter.unusedVariables false
theorem hasV_put (s : BitVec 128) (x y : Int) (hx : 0 ≤ x ∧ x < 100) : hasV (withV s x) y = (hasV s y || decide (x = y)) := by
  unfold hasV withV
  rw [if_pos hx]
  by_cases hy : 0 ≤ y ∧ y < 100
  · rw [if_pos hy, if_pos hy, BitVec.getLsbD_or, Ear.clean_bit, Ear.one_bit]
    obtain ⟨i, rfl⟩ := Int.eq_ofNat_of_zero_le hx.1
    obtain ⟨j, rfl⟩ := Int.eq_ofNat_of_zero_le hy.1
    have hj : j < 100 := by omega
    have hj' : j < 128 := by omega
    by_cases hij : i = j
    · subst hij; simp [hj, hj']
    · have : ¬ ((i : Int) = (j : Int)) := by omega
      have h2 : ¬ (j = i) := fun e => hij e.symm
      simp [hj, hj', this, h2]
  · rw [if_neg hy, if_neg hy]
    have : x ≠ y := by omega
    simp [this]
/-- The nodes of which a book has another notice. -/
def chg : List Nt → List Nt → BitVec 128 → BitVec 128
  | _, [], s => s
  | L, x :: l, s => chg (takeN L x) l (if takeB L x = true then withV s x.of_ else s)
theorem takeB_get {L : List Nt} (hL : BookOk L) (x : Nt) (i : Nat) (h : i < L.length) : (takeB L x && decide (x.of_ = (i : Int))) = decide (rankN L[i] < rankN ((takeN L x)[i]'(by rw [takeN_len]; exact h))) := by
  rw [takeN_get hL x i h]
  by_cases hc : validN L.length x = true ∧ x.of_ = (i : Int) ∧ rankN L[i] < rankN x
  · rw [if_pos hc]
    obtain ⟨hv, hi, hb⟩ := hc
    obtain ⟨ho, hr⟩ := hL.each i h
    have hin : x.of_.toNat = i := by omega
    have ht : takeB L x = true := by
      unfold takeB
      rw [hv, hin, List.getElem?_eq_getElem h]
      unfold beatsN
      simp [ho, hi, hr, hb]
    rw [ht, decide_eq_true hi, decide_eq_true hb]
    rfl
  · rw [if_neg hc, decide_eq_false (by omega : ¬ rankN L[i] < rankN L[i])]
    by_cases hi : x.of_ = (i : Int)
    · have ht : takeB L x = false := by
        cases hq : takeB L x with
        | false => rfl
        | true =>
          exfalso
          unfold takeB at hq
          simp only [Bool.and_eq_true] at hq
          obtain ⟨hv, hb⟩ := hq
          have := (of_valid hv).1
          have hin : x.of_.toNat = i := by omega
          rw [hin, List.getElem?_eq_getElem h] at hb
          unfold beatsN at hb
          simp only [Bool.and_eq_true, decide_eq_true_eq] at hb
          exact hc ⟨hv, hi, hb.2⟩
      rw [ht]; rfl
    · rw [decide_eq_false hi, Bool.and_false]
theorem takeB_of {L : List Nt} {x : Nt} (h : takeB L x = true) : 0 ≤ x.of_ ∧ x.of_ < L.length := by
  unfold takeB at h
  simp only [Bool.and_eq_true] at h
  have := of_valid h.1
  exact ⟨this.1, this.2.1⟩
theorem rank_mono {L : List Nt} (hL : BookOk L) (l : List Nt) (i : Nat) (h : i < L.length) : rankN L[i] ≤ rankN ((takesN L l)[i]'(by rw [takesN_len]; exact h)) := (takesN_char hL l i h).2.1
theorem hasV_chg {L : List Nt} (hL : BookOk L) (l : List Nt) (s : BitVec 128) (i : Nat) (h : i < L.length) : hasV (chg L l s) (i : Int) = (hasV s (i : Int) || decide (rankN L[i] < rankN ((takesN L l)[i]'(by rw [takesN_len]; exact h)))) := by
  induction l generalizing L s with
  | nil =>
    have : ¬ rankN L[i] < rankN L[i] := by omega
    simp [chg, takesN]
  | cons a l ih =>
    have h' : i < (takeN L a).length := by rw [takeN_len]; exact h
    have h1 := takeB_get hL a i h
    have hm := rank_mono (takeN_ok hL a) l i h'
    have hm0 : rankN L[i] ≤ rankN (takeN L a)[i] := by
      rw [takeN_get hL a i h]
      split
      · rename_i hc; omega
      · omega
    simp only [chg, show takesN L (a :: l) = takesN (takeN L a) l from rfl]
    rw [ih (takeN_ok hL a) _ h']
    have h'' : i < (takesN (takeN L a) l).length := by rw [takesN_len]; exact h'
    have key : (decide (rankN L[i] < rankN (takeN L a)[i]) || decide (rankN (takeN L a)[i] < rankN (takesN (takeN L a) l)[i])) = decide (rankN L[i] < rankN (takesN (takeN L a) l)[i]) := by
      rw [Bool.eq_iff_iff]
      simp only [Bool.or_eq_true, decide_eq_true_eq]
      omega
    rw [← key, ← h1]
    by_cases ht : takeB L a = true
    · have hb := takeB_of ht
      have := hL.most
      rw [if_pos ht, hasV_put _ _ _ ⟨hb.1, by omega⟩, ht, Bool.true_and, Bool.or_assoc]
    · have ht' : takeB L a = false := by simpa using ht
      rw [if_neg ht, ht', Bool.false_and, Bool.false_or]
def mergeOk (n : Nat) (l : List Nt) : Bool := l.all (validN n)
def mergeN (L l : List Nt) : List Nt := if mergeOk L.length l = true then takesN L l else L
theorem merge_one (L : List Nt) (x : Nt) : mergeN L [x] = takeN L x := by
  unfold mergeN mergeOk
  by_cases h : validN L.length x = true
  · simp only [List.all_cons, List.all_nil, Bool.and_true, h, if_true]; rfl
  · have : takeN L x = L := by unfold takeN takeB; rw [if_neg (by simp [h])]
    simp [h, this]
def newErr (n self tag : Int) : Int := if n < 1 ∨ 100 < n then 1 else if self < 0 ∨ n ≤ self then 30 else if validN n ⟨self, tag, 1⟩ = false then 50 else 0
def freshL (n : Nat) : List Nt := (List.range n).map fun i : Nat => (⟨(i : Int), 0, 1⟩ : Nt)
def newB (n self tag : Int) : List Nt := (freshL n.toNat).set self.toNat ⟨self, tag, 1⟩
theorem freshL_len (n : Nat) : (freshL n).length = n := by simp [freshL]
theorem newErr_ok {n self tag : Int} (h : newErr n self tag = 0) : 1 ≤ n ∧ n ≤ 100 ∧ 0 ≤ self ∧ self < n ∧ validN n ⟨self, tag, 1⟩ = true := by
  unfold newErr at h
  split at h
  · simp at h
  · rename_i h1
    split at h
    · simp at h
    · rename_i h2
      split at h
      · simp at h
      · rename_i h3
        exact ⟨by omega, by omega, by omega, by omega, by simpa using h3⟩
theorem newB_len {n self tag : Int} (h : newErr n self tag = 0) : ((newB n self tag).length : Int) = n := by
  have := newErr_ok h
  unfold newB
  rw [List.length_set, freshL_len]
  omega
theorem fresh_set (m k : Nat) (x : Nt) (hk : x.of_ = (k : Int)) (hr : 0 ≤ rankN x) : ∀ i (h : i < ((freshL m).set k x).length), ((freshL m).set k x)[i].of_ = (i : Int) ∧ 0 ≤ rankN ((freshL m).set k x)[i] := by
  intro i hi
  by_cases his : k = i
  · subst his
    rw [List.getElem_set_self]
    exact ⟨hk, hr⟩
  · rw [List.getElem_set_ne his]
    unfold freshL
    rw [List.getElem_map, List.getElem_range]
    exact ⟨rfl, by simp [rankN, tagOk]⟩
theorem newB_ok {n self tag : Int} (h : newErr n self tag = 0) : BookOk (newB n self tag) := by
  obtain ⟨h1, h2, h3, h4, h5⟩ := newErr_ok h
  have hl := newB_len h
  exact ⟨by omega, by omega, fresh_set n.toNat self.toNat ⟨self, tag, 1⟩ (by show self = _; omega) (of_valid h5).2.2⟩
end Go.Proofs.Ytklfkfnckdeifaa
end
section
namespace Go.Proofs.Ytklfkfnckdeifaa
set_option linter.unusedSimpArgs false
set_option linter.unusedVariables false
open Go.RowKit
theorem owns_keepB {S : Nat → Prop} {w w' : World} {b e s n : Nat} {v : Value} {xs : List Value} (h : w.ownsRow b e s v n xs) (hk : Ear.Keep S w w') (hn : ∀ k, v.ownBlock = some k → ¬ S k) : w'.ownsRow b e s v n xs := by
  obtain ⟨hl, h | ⟨g, cap', cur, hv, hb1, hc, hr⟩⟩ := h
  · exact ⟨hl, .inl h⟩
  · exact ⟨hl, .inr ⟨g, cap', cur, hv, hb1, (hk.block g (Array.getElem?_eq_some_iff.1 hc).1 (hn g (by rw [hv]; rfl))).trans hc, hr⟩⟩
structure Bk where
  B : Nat
  g : Nat
  cap : Nat
  L : List Nt
end Go.Proofs.Ytklfkfnckdeifaa
end
section
namespace Go.Proofs.Ytklfkfnckdeifaa
set_option linter.unusedSimpArgs false
set_option linter.unusedVariables false
theorem takesN_snoc (L l : List Nt) (x : Nt) : takesN L (l ++ [x]) = takeN (takesN L l) x := by simp [takesN]
theorem takesN_succ (L l : List Nt) (k : Nat) (h : k < l.length) : takesN L (l.take (k + 1)) = takeN (takesN L (l.take k)) l[k] := by
  rw [List.take_succ_eq_append_getElem h, takesN_snoc]
def rotL (l : List Nt) (k : Nat) : List Nt := l.drop k ++ l.take k
theorem rotL_len (l : List Nt) (k : Nat) (h : k ≤ l.length) : (rotL l k).length = l.length := by
  unfold rotL; rw [List.length_append, List.length_drop, List.length_take]; omega
theorem rotL_mem (l : List Nt) (k : Nat) (x : Nt) : x ∈ l ↔ x ∈ rotL l k := by
  unfold rotL
  rw [List.mem_append, or_comm, ← List.mem_append, List.take_append_drop]
theorem rotL_get (l : List Nt) (k i : Nat) (hk : k < l.length) (hi : i < l.length) : (rotL l k)[i]'(by rw [rotL_len l k (by omega)]; exact hi) = l[(i + k) % l.length]'(Nat.mod_lt _ (by omega)) := by
  unfold rotL
  by_cases h : i < l.length - k
  · rw [List.getElem_append_left (by rw [List.length_drop]; exact h), List.getElem_drop]
    congr 1
    rw [Nat.mod_eq_of_lt (by omega)]; omega
  · rw [List.getElem_append_right (by rw [List.length_drop]; omega), List.getElem_take]
    congr 1
    rw [List.length_drop, show i + k = (i - (l.length - k)) + l.length by omega, Nat.add_mod_right, Nat.mod_eq_of_lt (by omega)]
theorem rev_take (l : List Nt) (j : Nat) (h : j < l.length) : l.reverse.take (j + 1) = l.reverse.take j ++ [l[l.length - 1 - j]'(by omega)] := by
  rw [List.take_succ_eq_append_getElem (by rw [List.length_reverse]; exact h), List.getElem_reverse]
theorem order_same {L : List Nt} (hL : BookOk L) (l : List Nt) (k : Nat) : takesN L l = takesN L (rotL l k) ∧ takesN L l = takesN L l.reverse :=
  ⟨takesN_same hL (rotL_mem l k), takesN_same hL (fun x => List.mem_reverse.symm)⟩
end Go.Proofs.Ytklfkfnckdeifaa
end
section
namespace Go.Proofs.Ytklfkfnckdeifaa
set_option linter.unusedSimpArgs false
set_option linter.unusedVariables false
theorem takeN_no {L : List Nt} {x : Nt} (h : takeB L x = false) : takeN L x = L := by unfold takeN; rw [if_neg (by rw [h]; decide)]
theorem take_rank {L : List Nt} {x : Nt} (h : takeB L x = true) : ∃ (i : Nat) (hi : i < L.length), x.of_ = (i : Int) ∧ validN L.length x = true ∧ rankN L[i] < rankN x := by
  have hb := takeB_of h
  unfold takeB at h
  simp only [Bool.and_eq_true] at h
  obtain ⟨hv, h2⟩ := h
  have hi : x.of_.toNat < L.length := by omega
  rw [List.getElem?_eq_getElem hi] at h2
  unfold beatsN at h2
  simp only [Bool.and_eq_true, decide_eq_true_eq] at h2
  exact ⟨x.of_.toNat, hi, by omega, hv, h2.2⟩
theorem taken {L : List Nt} (hL : BookOk L) (l : List Nt) : ∀ x ∈ l, takeB (takesN L l) x = false := by
  intro x hx
  cases ht : takeB (takesN L l) x with
  | false => rfl
  | true =>
    exfalso
    obtain ⟨i, hi, ho, hv, hr⟩ := take_rank ht
    have hi' : i < L.length := by rw [takesN_len] at hi; exact hi
    rw [takesN_len] at hv
    have := (takesN_char hL l i hi').2.2 x hx hv ho
    omega
theorem own_list {L : List Nt} (hL : BookOk L) : ∀ x ∈ L, takeB L x = false := by
  intro x hx
  cases ht : takeB L x with
  | false => rfl
  | true =>
    exfalso
    obtain ⟨i, hi, ho, -, hr⟩ := take_rank ht
    obtain ⟨j, hj, rfl⟩ := List.getElem_of_mem hx
    have := (hL.each j hj).1
    have hij : i = j := by omega
    subst hij
    omega
theorem no_takes {M : List Nt} : ∀ (m : List Nt), (∀ x ∈ m, takeB M x = false) → takesN M m = M ∧ ∀ s, chg M m s = s
  | [], _ => ⟨rfl, fun _ => rfl⟩
  | a :: m, h => by
    have ha := h a List.mem_cons_self
    have hm := no_takes m (fun x hx => h x (List.mem_cons_of_mem _ hx))
    have hn := takeN_no ha
    refine ⟨?_, fun s => ?_⟩
    · rw [show takesN M (a :: m) = takesN (takeN M a) m from rfl, hn]; exact hm.1
    · simp only [chg, ha, hn]
      exact hm.2 s
theorem own_valid {L : List Nt} (hL : BookOk L) : mergeOk L.length L = true := by
  unfold mergeOk
  rw [List.all_eq_true]
  intro x hx
  obtain ⟨j, hj, rfl⟩ := List.getElem_of_mem hx
  obtain ⟨h1, h2⟩ := hL.each j hj
  exact valid_of hL.pos hL.most (by omega) (by omega) h2
end Go.Proofs.Ytklfkfnckdeifaa
end
