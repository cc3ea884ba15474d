/-
  Notices and books, as data.
-/
import Derived.Test.YtfkgllbooopfdaaLib
namespace Go.Proofs.Ytfkgllbooopfdaa
set_option linter.unusedSimpArgs false
set_option linter.unusedVariables false
/-- A notice. -/
structure Nt where
  of_ : Int
  tag : Int
  kind : Int
theorem Nt.ext' {x y : Nt} (h1 : x.of_ = y.of_) (h2 : x.tag = y.tag) (h3 : x.kind = y.kind) : x = y := by cases x; cases y; simp_all
def tagOk (x : Nt) : Bool := decide (0 ≤ x.tag) && decide (x.tag ≤ 1048576)
def kindOk (x : Nt) : Bool := (x.kind == 1) || (x.kind == 2)
def validN (n : Int) (x : Nt) : Bool := decide (1 ≤ n) && decide (n ≤ 100) && decide (0 ≤ x.of_) && decide (x.of_ < n) && tagOk x && kindOk x
def rankN (x : Nt) : Int := if tagOk x = true then (if x.kind = 1 then 2 * x.tag else if x.kind = 2 then 2 * x.tag + 1 else -1) else -1
def beatsN (a b : Nt) : Bool := decide (a.of_ = b.of_) && decide (0 ≤ rankN b) && decide (rankN b < rankN a)
theorem rank_iff (x : Nt) : 0 ≤ rankN x ↔ tagOk x = true ∧ kindOk x = true := by
  unfold rankN kindOk
  by_cases h : tagOk x = true
  · rw [if_pos h]
    have h' := h
    unfold tagOk at h'
    simp only [Bool.and_eq_true, decide_eq_true_eq] at h'
    by_cases h1 : x.kind = 1
    · simp [h, h1]; omega
    · by_cases h2 : x.kind = 2
      · simp [h, h2]; omega
      · simp [h1, h2]
  · rw [if_neg h]; simp [h]
theorem rank_inj {x y : Nt} (hx : 0 ≤ rankN x) (ho : x.of_ = y.of_) (h : rankN x = rankN y) : x = y := by
  have hy : 0 ≤ rankN y := h ▸ hx
  obtain ⟨t1, k1⟩ := (rank_iff x).1 hx
  obtain ⟨t2, k2⟩ := (rank_iff y).1 hy
  unfold rankN at h
  rw [if_pos t1, if_pos t2] at h
  unfold kindOk at k1 k2
  simp only [Bool.or_eq_true, beq_iff_eq] at k1 k2
  refine Nt.ext' ho ?_ ?_
  · rcases k1 with k1 | k1 <;> rcases k2 with k2 | k2 <;> simp [k1, k2] at h <;> omega
  · rcases k1 with k1 | k1 <;> rcases k2 with k2 | k2 <;> simp [k1, k2] at h ⊢ <;> omega
theorem valid_of {n : Nat} {x : Nt} (h1 : 1 ≤ n) (h2 : n ≤ 100) (h3 : 0 ≤ x.of_) (h4 : x.of_ < n) (h5 : 0 ≤ rankN x) : validN n x = true := by
  obtain ⟨a, b⟩ := (rank_iff x).1 h5
  unfold validN
  rw [a, b]
  simp
  omega
theorem of_valid {n : Int} {x : Nt} (h : validN n x = true) : 0 ≤ x.of_ ∧ x.of_ < n ∧ 0 ≤ rankN x := by
  unfold validN at h
  simp only [Bool.and_eq_true, decide_eq_true_eq] at h
  exact ⟨h.1.1.1.2, h.1.1.2, (rank_iff x).2 ⟨h.1.2, h.2⟩⟩
/-- A book: of each node one notice. -/
structure BookOk (L : List Nt) : Prop where
  pos : 1 ≤ L.length
  most : L.length ≤ 100
  each : ∀ i (h : i < L.length), L[i].of_ = (i : Int) ∧ 0 ≤ rankN L[i]
def takeB (L : List Nt) (x : Nt) : Bool := validN L.length x && (match L[x.of_.toNat]? with | some y => beatsN x y | none => false)
def takeN (L : List Nt) (x : Nt) : List Nt := if takeB L x = true then L.set x.of_.toNat x else L
theorem takeN_len (L : List Nt) (x : Nt) : (takeN L x).length = L.length := by unfold takeN; split <;> simp
theorem takeN_get {L : List Nt} (hL : BookOk L) (x : Nt) (i : Nat) (h : i < L.length) :
    (takeN L x)[i]'(by rw [takeN_len]; exact h) = if validN L.length x = true ∧ x.of_ = (i : Int) ∧ rankN L[i] < rankN x then x else L[i] := by
  obtain ⟨ho, hr⟩ := hL.each i h
  by_cases hc : validN L.length x = true ∧ x.of_ = (i : Int) ∧ rankN L[i] < rankN x
  · rw [if_pos hc]
    obtain ⟨hv, hi, hb⟩ := hc
    have hin : x.of_.toNat = i := by omega
    have ht : takeB L x = true := by
      unfold takeB
      rw [hv, hin, List.getElem?_eq_getElem h]
      unfold beatsN
      simp [ho, hi, hr, hb]
    have he : takeN L x = L.set i x := by unfold takeN; rw [if_pos ht, hin]
    simp only [he, List.getElem_set_self]
  · rw [if_neg hc]
    by_cases ht : takeB L x = true
    · have he : takeN L x = L.set x.of_.toNat x := by unfold takeN; rw [if_pos ht]
      simp only [he]
      by_cases hin : x.of_.toNat = i
      · exfalso
        unfold takeB at ht
        simp only [Bool.and_eq_true] at ht
        obtain ⟨hv, hb⟩ := ht
        rw [hin, List.getElem?_eq_getElem h] at hb
        unfold beatsN at hb
        simp only [Bool.and_eq_true, decide_eq_true_eq] at hb
        have := (of_valid hv).1
        exact hc ⟨hv, by omega, hb.2⟩
      · rw [List.getElem_set_ne hin]
    · have he : takeN L x = L := by unfold takeN; rw [if_neg ht]
      simp only [he]
theorem takeN_ok {L : List Nt} (hL : BookOk L) (x : Nt) : BookOk (takeN L x) := by
  refine ⟨by rw [takeN_len]; exact hL.pos, by rw [takeN_len]; exact hL.most, fun i h => ?_⟩
  have h' : i < L.length := by rw [takeN_len] at h; exact h
  rw [takeN_get hL x i h']
  split
  · rename_i hc
    exact ⟨hc.2.1, by have := (hL.each i h').2; omega⟩
  · exact hL.each i h'
def takesN (L : List Nt) (l : List Nt) : List Nt := l.foldl takeN L
theorem takesN_len (L l : List Nt) : (takesN L l).length = L.length := by
  induction l generalizing L with
  | nil => rfl
  | cons a l ih => rw [show takesN L (a :: l) = takesN (takeN L a) l from rfl, ih, takeN_len]
theorem takesN_ok {L : List Nt} (hL : BookOk L) (l : List Nt) : BookOk (takesN L l) := by
  induction l generalizing L with
  | nil => exact hL
  | cons a l ih => exact ih (takeN_ok hL a)
theorem takesN_char {L : List Nt} (hL : BookOk L) (l : List Nt) (i : Nat) (h : i < L.length) :
    ((takesN L l)[i]'(by rw [takesN_len]; exact h) = L[i] ∨ (takesN L l)[i]'(by rw [takesN_len]; exact h) ∈ l) ∧ rankN L[i] ≤ rankN ((takesN L l)[i]'(by rw [takesN_len]; exact h)) ∧
      ∀ z ∈ l, validN L.length z = true → z.of_ = (i : Int) → rankN z ≤ rankN ((takesN L l)[i]'(by rw [takesN_len]; exact h)) := by
  induction l generalizing L with
  | nil => exact ⟨.inl rfl, Int.le_refl _, by simp⟩
  | cons a l ih =>
    have h' : i < (takeN L a).length := by rw [takeN_len]; exact h
    obtain ⟨c1, c2, c3⟩ := ih (takeN_ok hL a) h'
    have hg := takeN_get hL a i h
    simp only [show takesN L (a :: l) = takesN (takeN L a) l from rfl]
    by_cases hc : validN L.length a = true ∧ a.of_ = (i : Int) ∧ rankN L[i] < rankN a
    · rw [if_pos hc] at hg
      rw [hg] at c1 c2
      refine ⟨.inr ?_, by omega, ?_⟩
      · rcases c1 with c1 | c1
        · rw [c1]; exact List.mem_cons_self
        · exact List.mem_cons_of_mem _ c1
      · intro z hz hv ho
        rcases List.mem_cons.1 hz with rfl | hz
        · exact c2
        · exact c3 z hz (by rw [takeN_len]; exact hv) ho
    · rw [if_neg hc] at hg
      rw [hg] at c1 c2
      refine ⟨?_, c2, ?_⟩
      · rcases c1 with c1 | c1
        · exact .inl c1
        · exact .inr (List.mem_cons_of_mem _ c1)
      · intro z hz hv ho
        rcases List.mem_cons.1 hz with rfl | hz
        · have : ¬ rankN L[i] < rankN z := fun hh => hc ⟨hv, ho, hh⟩
          omega
        · exact c3 z hz (by rw [takeN_len]; exact hv) ho
/-- In whatever order notices are taken, the book is the same. -/
theorem takesN_same {L : List Nt} (hL : BookOk L) {l m : List Nt} (h : ∀ x, x ∈ l ↔ x ∈ m) : takesN L l = takesN L m := by
  apply List.ext_getElem
  · rw [takesN_len, takesN_len]
  · intro i h1 h2
    have hi : i < L.length := by rw [takesN_len] at h1; exact h1
    obtain ⟨a1, a2, a3⟩ := takesN_char hL l i hi
    obtain ⟨b1, b2, b3⟩ := takesN_char hL m i hi
    obtain ⟨o1, r1⟩ := (takesN_ok hL l).each i h1
    obtain ⟨o2, r2⟩ := (takesN_ok hL m).each i h2
    refine rank_inj r1 (o1.trans o2.symm) ?_
    have v1 : validN L.length ((takesN L l)[i]) = true := valid_of hL.pos hL.most (by rw [o1]; omega) (by rw [o1]; omega) r1
    have v2 : validN L.length ((takesN L m)[i]) = true := valid_of hL.pos hL.most (by rw [o2]; omega) (by rw [o2]; omega) r2
    apply Int.le_antisymm
    · rcases a1 with a1 | a1
      · rw [a1]; exact b2
      · exact b3 _ ((h _).1 a1) v1 o1
    · rcases b1 with b1 | b1
      · rw [b1]; exact a2
      · exact a3 _ ((h _).2 b1) v2 o2
end Go.Proofs.Ytfkgllbooopfdaa
