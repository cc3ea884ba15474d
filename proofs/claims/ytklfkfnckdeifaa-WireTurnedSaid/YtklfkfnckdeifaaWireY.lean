/-
  Bytes that are cut off, longer, or turned.
-/
import Derived.Test.YtklfkfnckdeifaaWireS
namespace Go.Proofs.Ytklfkfnckdeifaa
set_option linter.unusedSimpArgs false
set_option linter.unusedVariables false
open Go.RowKit
attribute [local irreducible] withinW riseFrom validN
/-- Two lists are alike below q. -/
def Ag (l l' : List Int) (q : Nat) : Prop := ∀ i, i < q → l'.getD i 0 = l.getD i 0
theorem numK_ag {l l' : List Int} {q : Nat} (h : Ag l l' q) (p : Nat) : ∀ m, p + m ≤ q → numK l' p m = numK l p m
  | 0, _ => rfl
  | m + 1, hm => by
    show numK l' p m * 256 + l'.getD (p + m) 0 = numK l p m * 256 + l.getD (p + m) 0
    rw [numK_ag h p m (by omega), h _ (by omega)]
theorem heardK_ag {l l' : List Int} {q : Nat} (h : Ag l l' q) (p : Nat) : ∀ m, p + m ≤ q → heardK l' p m = heardK l p m
  | 0, _ => rfl
  | m + 1, hm => by rw [heardK_succ, heardK_succ, heardK_ag h p m (by omega), h _ (by omega)]
theorem ntK_ag {l l' : List Int} {q p : Nat} (h : Ag l l' q) (hp : p + 5 ≤ q) : ntK l' p = ntK l p := by
  rw [ntK_eq, ntK_eq, numK_ag h (p + 2) 3 (by omega), h p (by omega), h (p + 1) (by omega)]
theorem take_ag {l l' : List Int} {q : Nat} (h : Ag l l' q) (h1 : q ≤ l.length) (h2 : q ≤ l'.length) : l'.take q = l.take q := by
  apply List.ext_getElem
  · rw [List.length_take, List.length_take]; omega
  · intro i h3 h4
    rw [List.length_take] at h3
    rw [List.getElem_take, List.getElem_take]
    have := h i (by omega)
    rw [getD_at (by omega), getD_at (by omega)] at this
    exact this
theorem newsE_ag {l l' : List Int} {n : Int} {q : Nat} (h : Ag l l' q) (hq : q ≤ l.length) (hq2 : l'.length ≤ q ∨ l.length ≤ q) : ∀ (m p : Nat) (prev : Int), newsE l n m p prev = 0 → newsE l' n m p prev = if m = 0 ∨ p + m * 5 ≤ l'.length then 0 else 76
  | 0, p, prev, _ => by rw [newsE_zero, if_pos (.inl rfl)]
  | m + 1, p, prev, h0 => by
    have hfull := (newsE_iff _ _ _).1 h0
    rw [newsE_succ] at h0 ⊢
    by_cases h1 : l'.length < p + 5
    · rw [if_pos h1, if_neg (by omega)]
    · rw [if_neg h1]
      by_cases h2 : l.length < p + 5
      · rw [if_pos h2] at h0; omega
      · rw [if_neg h2] at h0
        rw [ntK_ag h (by omega)]
        by_cases h3 : validN n (ntK l p) = true ∧ prev < (ntK l p).of_
        · rw [if_pos h3] at h0 ⊢
          rw [newsE_ag h hq hq2 m (p + 5) _ h0]
          by_cases h4 : m = 0 ∨ p + 5 + m * 5 ≤ l'.length
          · rw [if_pos h4, if_pos (by omega)]
          · rw [if_neg h4, if_neg (by omega)]
        · rw [if_neg h3] at h0; omega
/-- What is said of bytes that begin as those of a note, or are cut off. -/
def agR (N N' : Nat) : Int := if N' < N then 76 else if N < N' then 2 else 0
theorem agR_lt {N N' : Nat} (h : N' < N) : agR N N' = 76 := if_pos h
theorem decN_ag {l l' : List Int} {n : Int} {p : Nat} (h : Ag l l' (min l.length l'.length)) (h1 : p + 1 ≤ l.length ∧ l.getD p 0 ≤ n) (h2 : riseFrom n (-1) (newsK l (p + 1) (manyK l p)) = true) (h3 : numK l (p + 1 + manyK l p * 5) 4 = sumV (l.take (p + 1 + manyK l p * 5))) (h4 : p + 1 + manyK l p * 5 + 4 = l.length) : decN l' n p = agR l.length l'.length := by
  unfold decN
  by_cases s1 : l'.length < p + 1
  · have e : newsC l' n p = 76 := by unfold newsC; rw [if_pos s1]
    rw [e, if_neg (by decide), agR_lt (by omega)]
  have hg := h p (by omega)
  have hm : manyK l' p = manyK l p := by unfold manyK; rw [hg]
  have hE : newsE l n (manyK l p) (p + 1) (-1) = 0 := (newsE_iff _ _ _).2 ⟨by omega, h2⟩
  have e : newsC l' n p = if manyK l p = 0 ∨ p + 1 + manyK l p * 5 ≤ l'.length then 0 else 76 := by
    unfold newsC
    rw [if_neg s1, hg, if_neg (by omega), hm]
    exact newsE_ag h (by omega) (by omega) _ _ _ hE
  by_cases s2 : manyK l p = 0 ∨ p + 1 + manyK l p * 5 ≤ l'.length
  · rw [e, if_pos s2, if_pos rfl, hm]
    unfold decS
    by_cases s3 : l'.length < p + 1 + manyK l p * 5 + 4
    · rw [if_pos s3, agR_lt (by omega)]
    · rw [if_neg s3, numK_ag h _ 4 (by omega), take_ag (q := p + 1 + manyK l p * 5) (fun i hi => h i (by omega)) (by omega) (by omega), if_pos h3]
      by_cases s4 : p + 1 + manyK l p * 5 + 4 = l'.length
      · rw [if_pos s4]; unfold agR; rw [if_neg (by omega), if_neg (by omega)]
      · rw [if_neg s4]; unfold agR; rw [if_neg (by omega), if_pos (by omega)]
  · rw [e, if_neg s2, if_neg (by decide), agR_lt (by omega)]
theorem dec_ag {l l' : List Int} {n : Int} (hd : DecOk l n) (h : Ag l l' (min l.length l'.length)) : decC l' n = agR l.length l'.length := by
  have hlen := hd.len
  have hall := hd.all
  have hk := hd.kind
  have hat : 5 ≤ atK l n := by
    rcases hk with hk | hk | hk
    · rw [atD_1 hk]; omega
    · rw [atD_2 hk]; omega
    · rw [atD_3 hk]; omega
  unfold decC
  by_cases s2 : l'.length < 2
  · rw [if_pos s2, agR_lt (by omega)]
  rw [if_neg s2, h 0 (by omega), h 1 (by omega), if_pos ⟨hd.m0, hd.m1⟩]
  by_cases s3 : l'.length < 3
  · rw [if_pos s3, agR_lt (by omega)]
  rw [if_neg s3, h 2 (by omega), if_pos (by omega)]
  by_cases s4 : l'.length < 4
  · rw [if_pos s4, agR_lt (by omega)]
  rw [if_neg s4, h 3 (by omega), if_pos hd.size]
  by_cases s5 : l'.length < 5
  · rw [if_pos s5, agR_lt (by omega)]
  rw [if_neg s5, h 4 (by omega), if_pos hd.frm]
  have h1 := hd.many
  have h2 := hd.news
  have h3 := hd.sum
  rcases hk with hk | hk | hk
  · rw [atD_1 hk] at h1 h2 h3 hall
    obtain ⟨r1, r2⟩ := hd.round (by omega)
    rw [if_neg (by omega)]
    unfold decR
    by_cases s10 : l'.length < 10
    · rw [if_pos s10, agR_lt (by omega)]
    rw [if_neg s10, numK_ag h 5 5 (by omega), if_pos r2, h 2 (by omega), if_neg (by omega)]
    exact decN_ag h h1 h2 h3 hall
  · rw [atD_2 hk] at h1 h2 h3 hall
    obtain ⟨r1, r2⟩ := hd.round (by omega)
    obtain ⟨q1, q2⟩ := hd.heard hk
    rw [if_neg (by omega)]
    unfold decR
    by_cases s10 : l'.length < 10
    · rw [if_pos s10, agR_lt (by omega)]
    rw [if_neg s10, numK_ag h 5 5 (by omega), if_pos r2, h 2 (by omega), if_pos hk]
    unfold decH heardC
    by_cases s11 : l'.length < 10 + bytesN n
    · rw [if_pos s11, if_neg (by decide), agR_lt (by omega)]
    rw [if_neg s11, heardK_ag h 10 (bytesN n) (by omega), if_pos q2, if_pos rfl]
    exact decN_ag h h1 h2 h3 hall
  · rw [atD_3 hk] at h1 h2 h3 hall
    rw [if_pos hk]
    exact decN_ag h h1 h2 h3 hall
/-- The first part of the sum. -/
theorem sum_fold : ∀ (l : List Int) (s : Int × Int), (l.foldl sumS s).1 % 65521 = (s.1 + l.sum) % 65521
  | [], s => by simp
  | a :: t, s => by
    rw [List.foldl_cons, sum_fold t, List.sum_cons]
    show ((s.1 + a) % 65521 + t.sum) % 65521 = _
    omega
theorem sumV_sum (l : List Int) : (sumV l % 65536) % 65521 = (1 + l.sum) % 65521 := by
  have h := sum_fold l (1, 0)
  have h2 := (sumP_in l).1
  have e : sumV l % 65536 = (sumP l).1 := by unfold sumV; omega
  rw [e]
  exact h
theorem sum_set : ∀ (l : List Int) (k : Nat) (v : Int), k < l.length → (l.set k v).sum = l.sum - l.getD k 0 + v
  | a :: t, 0, v, _ => by simp; omega
  | a :: t, k + 1, v, h => by
    have h' : k < t.length := by simpa using h
    have e : (a :: t).getD (k + 1) 0 = t.getD k 0 := rfl
    rw [List.set_cons_succ, List.sum_cons, List.sum_cons, sum_set t k v h', e]
    omega
theorem getD_set {l : List Int} {k i : Nat} {v : Int} (h : k < l.length) : (l.set k v).getD i 0 = if i = k then v else l.getD i 0 := by
  by_cases hi : i = k
  · subst hi; rw [if_pos rfl, getD_at (by simpa using h)]; simp
  · rw [if_neg hi]
    simp only [List.getD, List.getElem?_set]
    rw [if_neg (fun e => hi e.symm)]
/-- One byte of a note's bytes is another one. -/
theorem turned {l : List Int} {n : Int} {k : Nat} {v : Int} (hb : byteOk l) (hd : DecOk l n) (hk : k < l.length) (hv : 0 ≤ v ∧ v < 256) (hne : v ≠ l.getD k 0) : decC (l.set k v) n ≠ 0 := by
  intro h0
  have hd' := dec_ok h0
  have hb' : byteOk (l.set k v) := by
    intro x hx
    rcases List.mem_or_eq_of_mem_set hx with h | h
    · exact hb x h
    · rw [h]; exact hv
  have ha := hd.all
  have ha' := hd'.all
  rw [List.length_set] at ha'
  have hs := hd.sum
  have hs' := hd'.sum
  obtain ⟨Q, hQ⟩ : ∃ Q, l.length = Q + 4 := ⟨l.length - 4, by omega⟩
  rw [show atK l n + 1 + manyK l (atK l n) * 5 = Q by omega] at hs
  rw [show atK (l.set k v) n + 1 + manyK (l.set k v) (atK (l.set k v) n) * 5 = Q by omega] at hs'
  have hlk := getD_in hb k
  by_cases hkq : k < Q
  · have e1 : numK (l.set k v) Q 4 = numK l Q 4 := by
      have key : ∀ m, numK (l.set k v) Q m = numK l Q m := by
        intro m
        induction m with
        | zero => rfl
        | succ m ih =>
          show numK (l.set k v) Q m * 256 + (l.set k v).getD (Q + m) 0 = numK l Q m * 256 + l.getD (Q + m) 0
          rw [ih, getD_set hk, if_neg (by omega)]
      exact key 4
    rw [e1, hs] at hs'
    have t1 := sumV_sum (l.take Q)
    have t2 := sumV_sum ((l.set k v).take Q)
    rw [← hs', t1] at t2
    have e2 : (l.set k v).take Q = (l.take Q).set k v := by rw [List.take_set]
    rw [e2, sum_set _ k v (by rw [List.length_take]; omega)] at t2
    have e3 : (l.take Q).getD k 0 = l.getD k 0 := by
      rw [getD_at (by rw [List.length_take]; omega), getD_at hk, List.getElem_take]
    rw [e3] at t2
    omega
  · have e1 : (l.set k v).take Q = l.take Q := by rw [List.take_set_of_le (by omega)]
    rw [e1, ← hs] at hs'
    have e2 : sl (l.set k v) Q 4 = sl l Q 4 := by rw [← putL_num hb', ← putL_num hb, hs']
    have e3 : (sl (l.set k v) Q 4)[k - Q]? = (sl l Q 4)[k - Q]? := by rw [e2]
    rw [List.getElem?_eq_getElem (by rw [sl_len]; omega), List.getElem?_eq_getElem (by rw [sl_len]; omega), sl_get _ _ _ _ (by omega), sl_get _ _ _ _ (by omega), show Q + (k - Q) = k by omega, getD_set hk, if_pos rfl] at e3
    exact hne (Option.some.inj e3)
end Go.Proofs.Ytklfkfnckdeifaa
