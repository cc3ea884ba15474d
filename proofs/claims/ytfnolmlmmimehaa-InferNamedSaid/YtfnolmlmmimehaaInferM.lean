/-
  What is doubted is suspected, once it is taken: data alone.
-/
import Derived.Test.YtfnolmlmmimehaaInferL
namespace Go.Proofs.Ytfnolmlmmimehaa
set_option linter.unusedSimpArgs false
set_option linter.unusedVariables false
theorem idsS_lt (v : BitVec 128) (k : Nat) : (idsS v k).Pairwise (fun a b => a.1 < b.1) := by
  unfold idsS
  rw [List.pairwise_filterMap]
  refine List.pairwise_lt_range.imp ?_
  intro a b hab x hx y hy
  split at hx
  · split at hy
    · cases hx; cases hy; exact hab
    · cases hy
  · cases hx
theorem idsS_mem (v : BitVec 128) (i : Nat) (h : i < 100 ∧ v.getLsbD i = true) : (⟨i, h⟩ : IdOf v) ∈ idsS v 100 := by
  unfold idsS
  rw [List.mem_filterMap]
  exact ⟨i, List.mem_range.2 h.1, by rw [dif_pos h]⟩
theorem doubtAt_some {L : List Nt} {k : Nat} {y : Nt} (h : doubtAt L k = some y) : ∃ hk : k < L.length, L[k].kind = 1 ∧ y = ⟨L[k].of_, L[k].tag, 2⟩ := by
  unfold doubtAt at h
  split at h
  · rename_i z hz
    obtain ⟨hk, hz⟩ := List.getElem?_eq_some_iff.1 hz
    subst hz
    split at h
    · rename_i hkd
      cases h
      exact ⟨hk, by simpa using hkd, rfl⟩
    · cases h
  · cases h
theorem doubt_mem {L : List Nt} {v : BitVec 128} {y : Nt} (h : y ∈ doubtsOf L v) : ∃ (i : Nat) (hi : i < L.length), v.getLsbD i = true ∧ L[i].kind = 1 ∧ y = ⟨L[i].of_, L[i].tag, 2⟩ := by
  unfold doubtsOf doubtsP at h
  obtain ⟨x, -, hx⟩ := List.mem_filterMap.1 h
  obtain ⟨hk, h1, h2⟩ := doubtAt_some hx
  exact ⟨x.1, hk, x.2.2, h1, h2⟩
theorem doubt_in {L : List Nt} {v : BitVec 128} (i : Nat) (hi : i < L.length) (h1 : i < 100) (hv : v.getLsbD i = true) (hk : L[i].kind = 1) : (⟨L[i].of_, L[i].tag, 2⟩ : Nt) ∈ doubtsOf L v := by
  unfold doubtsOf doubtsP
  exact List.mem_filterMap.2 ⟨_, idsS_mem v i ⟨h1, hv⟩, doubtAt_yes (List.getElem?_eq_getElem hi) (by simp [hk])⟩
theorem doubts_lt {L : List Nt} (hL : BookOk L) (v : BitVec 128) : (doubtsOf L v).Pairwise (fun a b => a.of_ < b.of_) := by
  unfold doubtsOf doubtsP
  rw [List.pairwise_filterMap]
  refine (idsS_lt v 100).imp ?_
  intro a b hab x hx y hy
  obtain ⟨h1, -, rfl⟩ := doubtAt_some hx
  obtain ⟨h2, -, rfl⟩ := doubtAt_some hy
  show (L[a.1]).of_ < (L[b.1]).of_
  rw [(hL.each _ h1).1, (hL.each _ h2).1]
  omega
theorem doubt_rank {L : List Nt} (hL : BookOk L) (i : Nat) (hi : i < L.length) (hk : L[i].kind = 1) : validN L.length ⟨L[i].of_, L[i].tag, 2⟩ = true ∧ rankN L[i] < rankN ⟨L[i].of_, L[i].tag, 2⟩ := by
  obtain ⟨ho, hr⟩ := hL.each i hi
  obtain ⟨ht, -⟩ := (rank_iff _).1 hr
  have h1 := hL.pos
  have h2 := hL.most
  have ht2 : tagOk ⟨L[i].of_, L[i].tag, 2⟩ = true := ht
  constructor
  · unfold validN
    rw [ht2]
    unfold kindOk
    rw [ho]
    simp
    omega
  · unfold rankN
    rw [if_pos ht, if_pos hk, if_pos ht2]
    simp
    omega
theorem doubt_stay {L : List Nt} (hL : BookOk L) (v : BitVec 128) (k : Nat) (hk : k < (doubtsOf L v).length) (i : Nat) (hi : i < L.length) (he : (doubtsOf L v)[k].of_ = (i : Int)) :
    (takesN L ((doubtsOf L v).take k))[i]'(by rw [takesN_len]; exact hi) = L[i] := by
  have hM := takesN_ok hL ((doubtsOf L v).take k)
  have hi' : i < (takesN L ((doubtsOf L v).take k)).length := by rw [takesN_len]; exact hi
  rcases (takesN_char hL ((doubtsOf L v).take k) i hi).1 with h | h
  · exact h
  · exfalso
    obtain ⟨j, hj, hjz⟩ := List.getElem_of_mem h
    have hjk : j < k := by rw [List.length_take] at hj; omega
    rw [List.getElem_take] at hjz
    have := List.pairwise_iff_getElem.1 (doubts_lt hL v) j k (by omega) hk hjk
    rw [hjz, he, (hM.each i hi').1] at this
    omega
theorem doubt_step {L : List Nt} (hL : BookOk L) (v : BitVec 128) (k : Nat) (hk : k < (doubtsOf L v).length) : ∃ (i : Nat) (tag : Int), i < L.length ∧ (doubtsOf L v)[k] = ⟨(i : Int), tag, 2⟩ ∧ (takesN L ((doubtsOf L v).take k))[i]? = some ⟨(i : Int), tag, 1⟩ ∧
    takeB (takesN L ((doubtsOf L v).take k)) ⟨(i : Int), tag, 2⟩ = true ∧ errN (takesN L ((doubtsOf L v).take k)).length ⟨(i : Int), tag, 2⟩ = 0 := by
  obtain ⟨i, hi, hv, hkd, he⟩ := doubt_mem (List.getElem_mem hk)
  obtain ⟨ho, hr⟩ := hL.each i hi
  obtain ⟨h1, h2⟩ := doubt_rank hL i hi hkd
  have he' : (doubtsOf L v)[k].of_ = (i : Int) := by rw [he]; exact ho
  have hst := doubt_stay hL v k hk i hi he'
  rw [ho] at h1 h2 he
  have hLi : L[i] = ⟨(i : Int), L[i].tag, 1⟩ := Nt.ext' ho rfl hkd
  have hget : (takesN L ((doubtsOf L v).take k))[i]? = some L[i] := by
    rw [List.getElem?_eq_getElem (by rw [takesN_len]; exact hi), hst]
  refine ⟨i, L[i].tag, hi, he, by rw [hget, ← hLi], ?_, ?_⟩
  · unfold takeB
    rw [takesN_len, h1]
    simp only [Int.toNat_natCast, hget, Bool.true_and]
    unfold beatsN
    simp only [Bool.and_eq_true, decide_eq_true_eq]
    exact ⟨⟨ho.symm, hr⟩, h2⟩
  · rw [takesN_len]; exact errN_ok h1
/-- Behind all doubts. -/
theorem doubt_kind {L : List Nt} (hL : BookOk L) (v : BitVec 128) (i : Nat) (hi : i < L.length) : ((takesN L (doubtsOf L v))[i]'(by rw [takesN_len]; exact hi)).kind = if v.getLsbD i = true then 2 else L[i].kind := by
  have hm := hL.most
  obtain ⟨ho, hr⟩ := hL.each i hi
  have hc := takesN_char hL (doubtsOf L v) i hi
  have hko := ((rank_iff _).1 hr).2
  have hM := takesN_ok hL (doubtsOf L v)
  have hi' : i < (takesN L (doubtsOf L v)).length := by rw [takesN_len]; exact hi
  unfold kindOk at hko
  simp only [Bool.or_eq_true, beq_iff_eq] at hko
  by_cases hv : v.getLsbD i = true
  · rw [if_pos hv]
    rcases hc.1 with h | h
    · rcases hko with hk | hk
      · exfalso
        obtain ⟨h1, h2⟩ := doubt_rank hL i hi hk
        have := hc.2.2 _ (doubt_in i hi (by omega) hv hk) h1 ho
        rw [h] at this
        omega
      · rw [h]; exact hk
    · obtain ⟨j, hj, -, -, he⟩ := doubt_mem h
      rw [he]
  · rw [if_neg hv]
    rcases hc.1 with h | h
    · rw [h]
    · exfalso
      obtain ⟨j, hj, hvj, -, he⟩ := doubt_mem h
      have h1 := (hM.each i hi').1
      rw [he] at h1
      have h2 := (hL.each j hj).1
      have : j = i := by
        have : (L[j].of_ : Int) = i := h1
        omega
      subst this
      exact hv hvj
theorem doubt_none {L : List Nt} (hL : BookOk L) (v : BitVec 128) : doubtsOf (takesN L (doubtsOf L v)) v = [] := by
  apply List.eq_nil_iff_forall_not_mem.2
  intro y hy
  obtain ⟨i, hi, hv, hk, -⟩ := doubt_mem hy
  rw [takesN_len] at hi
  rw [doubt_kind hL v i hi, if_pos hv] at hk
  cases hk
theorem doubt_susp {L : List Nt} (hL : BookOk L) (v : BitVec 128) : Ear.clean (suspOf L ||| Ear.clean (v &&& Ear.full L.length)) = suspOf (takesN L (doubtsOf L v)) := by
  have hm := hL.most
  have hM := takesN_ok hL (doubtsOf L v)
  have hl := takesN_len L (doubtsOf L v)
  apply BitVec.eq_of_getLsbD_eq
  intro i hi
  have h1 := susp_bit hL L.length (Nat.le_refl _) i
  have h2 := susp_bit hM _ (Nat.le_refl _) i
  rw [List.take_length] at h1 h2
  rw [h2, Ear.clean_bit, BitVec.getLsbD_or, h1, Ear.clean_bit, BitVec.getLsbD_and, Ear.full_bit _ _ hm, hl]
  by_cases hlt : i < L.length
  · have h100 : i < 100 := by omega
    have e1 : suspAt L i = (L[i].kind == 2) := by unfold suspAt; rw [List.getElem?_eq_getElem hlt]
    have e2 : suspAt (takesN L (doubtsOf L v)) i = (((takesN L (doubtsOf L v))[i]'(by rw [hl]; exact hlt)).kind == 2) := by unfold suspAt; rw [List.getElem?_eq_getElem (by rw [hl]; exact hlt)]
    rw [e1, e2, doubt_kind hL v i hlt]
    cases v.getLsbD i <;> simp [hlt, h100]
  · simp [hlt]
end Go.Proofs.Ytfnolmlmmimehaa
