/-
  Books, and sets, with the ids gone round by one place: data alone.
-/
import Derived.Test.YtfnolmlmmimehaaInferM
import Derived.Test.YtfnolmlmmimehaaTallyM
namespace Go.Proofs.Ytfnolmlmmimehaa
set_option linter.unusedSimpArgs false
set_option linter.unusedVariables false
theorem nodup_leN {α : Type} [DecidableEq α] : ∀ (l m : List α), l.Nodup → (∀ x ∈ l, x ∈ m) → l.length ≤ m.length
  | [], _, _, _ => Nat.zero_le _
  | a :: t, m, hl, hm => by
    have hl' := List.nodup_cons.1 hl
    have ha := hm a List.mem_cons_self
    have h1 := nodup_leN t (m.erase a) hl'.2 (fun x hx => by
      have hne : x ≠ a := fun e => hl'.1 (e ▸ hx)
      exact (List.mem_erase_of_ne hne).2 (hm x (List.mem_cons_of_mem _ hx)))
    have h2 := List.length_erase_of_mem ha
    have h3 : 0 < m.length := List.length_pos_of_mem ha
    rw [List.length_cons]
    omega
/-- Gone round by one place. -/
def rotN (n : Int) (x : Nt) : Nt := ⟨rotI n x.of_, x.tag, x.kind⟩
theorem rotN_valid {n : Int} {x : Nt} (h0 : 0 ≤ x.of_) (h1 : x.of_ < n) : validN n (rotN n x) = validN n x := by
  obtain ⟨h2, h3⟩ := rotI_in h0 h1
  unfold validN rotN tagOk kindOk
  simp [h0, h1, h2, h3]
theorem rotN_rank (n : Int) (x : Nt) : rankN (rotN n x) = rankN x := rfl
/-- One book is the other one gone round. -/
structure RotB (A B : List Nt) : Prop where
  len : B.length = A.length
  get : ∀ i (h : i < A.length), B[(rotI A.length (i : Int)).toNat]? = some (rotN A.length A[i])
theorem newB_get {n self : Int} (h : newErr n self 0 = 0) (j : Nat) (hj : j < n.toNat) : (newB n self 0)[j]? = some ⟨(j : Int), 0, 1⟩ := by
  obtain ⟨h1, h2, h3, h4, -⟩ := newErr_ok h
  unfold newB
  rw [List.getElem?_set]
  by_cases e : self.toNat = j
  · rw [if_pos e, if_pos (by rw [freshL_len]; omega)]
    congr 2
    omega
  · rw [if_neg e]
    unfold freshL
    rw [List.getElem?_map, List.getElem?_range hj]
    rfl
theorem RotB.new {n : Int} (h : newErr n 0 0 = 0) (h' : newErr n (1 % n) 0 = 0) : RotB (newB n 0 0) (newB n (1 % n) 0) := by
  have l1 := newB_len h
  have l2 := newB_len h'
  refine ⟨by omega, fun i hi => ?_⟩
  have hi' : i < n.toNat := by omega
  have hg := newB_get h i hi'
  obtain ⟨hi2, hg⟩ := List.getElem?_eq_some_iff.1 hg
  rw [hg]
  obtain ⟨r1, r2⟩ := rotI_in (n := (newB n 0 0).length) (x := (i : Int)) (by omega) (by omega)
  obtain ⟨j, hj⟩ := Int.eq_ofNat_of_zero_le r1
  unfold rotN
  rw [hj] at r2 ⊢
  rw [Int.toNat_natCast]
  exact newB_get h' j (by omega)
theorem RotB.take {A B : List Nt} (h : RotB A B) (hA : BookOk A) (hB : BookOk B) (x : Nt) (h0 : 0 ≤ x.of_) (h1 : x.of_ < A.length) : RotB (takeN A x) (takeN B (rotN A.length x)) := by
  refine ⟨by rw [takeN_len, takeN_len]; exact h.len, fun i hi => ?_⟩
  rw [takeN_len] at hi
  have hga := takeN_get hA x i hi
  have hgi := h.get i hi
  have hlen : (takeN A x).length = A.length := takeN_len A x
  obtain ⟨r1, r2⟩ := rotI_in (n := A.length) (x := (i : Int)) (by omega) (by omega)
  obtain ⟨j, hj⟩ := Int.eq_ofNat_of_zero_le r1
  have hjl : j < B.length := by rw [h.len]; omega
  rw [hlen, hga]
  rw [hj, Int.toNat_natCast] at hgi ⊢
  obtain ⟨_, hgi⟩ := List.getElem?_eq_some_iff.1 hgi
  have hgb := takeN_get hB (rotN A.length x) j hjl
  rw [List.getElem?_eq_getElem (by rw [takeN_len]; exact hjl), hgb, hgi, h.len]
  have hv := rotN_valid h0 h1
  have hr : (rotN (A.length : Int) x).of_ = (j : Int) ↔ x.of_ = (i : Int) := by
    show rotI A.length x.of_ = (j : Int) ↔ _
    rw [← hj]
    constructor
    · intro e; exact rotI_inj h0 h1 (by omega) (by omega) e
    · intro e; rw [e]
  rw [hv, rotN_rank, rotN_rank]
  by_cases hc : validN A.length x = true ∧ x.of_ = (i : Int) ∧ rankN A[i] < rankN x
  · rw [if_pos hc, if_pos ⟨hc.1, hr.2 hc.2.1, hc.2.2⟩]
  · rw [if_neg hc, if_neg (fun e => hc ⟨e.1, hr.1 e.2.1, e.2.2⟩)]
/-- The set gone round. -/
def rotS (n : Int) (l : List Int) : BitVec 128 := l.foldl (fun s x => if x < n then withV s (rotI n x) else s) 0#128
theorem rotS_succ (n : Int) (l : List Int) (k : Nat) (h : k < l.length) : rotS n (l.take (k + 1)) = if l[k] < n then withV (rotS n (l.take k)) (rotI n l[k]) else rotS n (l.take k) := by
  unfold rotS; rw [List.take_succ_eq_append_getElem h, List.foldl_append]; rfl
theorem rotS_bit (n : Int) (hn : n ≤ 100) (l : List Int) (hl : ∀ x ∈ l, 0 ≤ x) (j : Nat) : (rotS n l).getLsbD j = true ↔ ∃ x ∈ l, x < n ∧ rotI n x = (j : Int) := by
  have key : ∀ k, k ≤ l.length → ((rotS n (l.take k)).getLsbD j = true ↔ ∃ x ∈ l.take k, x < n ∧ rotI n x = (j : Int)) := by
    intro k
    induction k with
    | zero => intro _; rw [List.take_zero]; simp [rotS]
    | succ k ih =>
      intro hk
      have hlt : k < l.length := by omega
      have ihk := ih (by omega)
      rw [rotS_succ n l k hlt, List.take_succ_eq_append_getElem hlt]
      have h0 := hl l[k] (List.getElem_mem hlt)
      have hb : ∀ x ∈ l.take k, x < n → rotI n x = (j : Int) → j < 100 := fun x hx hxn e => by
        have := rotI_in (hl x (List.mem_of_mem_take hx)) hxn
        omega
      by_cases hc : l[k] < n
      · rw [if_pos hc]
        obtain ⟨r1, r2⟩ := rotI_in h0 hc
        obtain ⟨q, hq⟩ := Int.eq_ofNat_of_zero_le r1
        rw [hq, withV_bit _ _ _ (by omega)]
        simp only [Bool.or_eq_true, Bool.and_eq_true, decide_eq_true_eq, List.mem_append, List.mem_singleton]
        constructor
        · rintro (⟨h1, -⟩ | h1)
          · obtain ⟨x, hx, h2⟩ := ihk.1 h1
            exact ⟨x, .inl hx, h2⟩
          · exact ⟨_, .inr rfl, hc, by rw [hq, h1]⟩
        · rintro ⟨x, hx | hx, h2, h3⟩
          · exact .inl ⟨ihk.2 ⟨x, hx, h2, h3⟩, hb x hx h2 h3⟩
          · subst hx
            rw [hq] at h3
            exact .inr (by omega)
      · rw [if_neg hc, ihk]
        simp only [List.mem_append, List.mem_singleton]
        constructor
        · rintro ⟨x, hx, h2⟩; exact ⟨x, .inl hx, h2⟩
        · rintro ⟨x, hx | hx, h2, h3⟩
          · exact ⟨x, hx, h2, h3⟩
          · subst hx; exact absurd h2 hc
  have := key l.length (Nat.le_refl _)
  rw [List.take_length] at this
  exact this
theorem ids_mem (v : BitVec 128) (x : Int) : x ∈ ids v ↔ 0 ≤ x ∧ x < 100 ∧ v.getLsbD x.toNat = true := by
  rw [ids_eq, List.mem_map]
  constructor
  · rintro ⟨y, -, rfl⟩
    unfold idI
    exact ⟨by omega, by have := y.2.1; omega, by rw [Int.toNat_natCast]; exact y.2.2⟩
  · rintro ⟨h0, h1, h2⟩
    exact ⟨⟨x.toNat, by omega, h2⟩, idsS_mem v _ ⟨by omega, h2⟩, by show ((x.toNat : Nat) : Int) = x; omega⟩
/-- What is doubted goes round. -/
theorem RotB.doubts {A B : List Nt} (h : RotB A B) (hA : BookOk A) (hB : BookOk B) (v : BitVec 128) :
    (doubtsOf A v).length = (doubtsOf B (rotS A.length (ids v))).length ∧ ∀ x ∈ doubtsOf A v, rotN A.length x ∈ doubtsOf B (rotS A.length (ids v)) := by
  have hm := hA.most
  have hnn : ∀ x ∈ ids v, 0 ≤ x := fun x hx => ((ids_mem v x).1 hx).1
  have hgo : ∀ x ∈ doubtsOf A v, rotN A.length x ∈ doubtsOf B (rotS A.length (ids v)) := by
    intro x hx
    obtain ⟨i, hi, hv, hk, rfl⟩ := doubt_mem hx
    have hgi := h.get i hi
    have ho := (hA.each i hi).1
    obtain ⟨r1, r2⟩ := rotI_in (n := A.length) (x := (i : Int)) (by omega) (by omega)
    obtain ⟨j, hj⟩ := Int.eq_ofNat_of_zero_le r1
    rw [hj, Int.toNat_natCast] at hgi
    obtain ⟨hjl, hgi⟩ := List.getElem?_eq_some_iff.1 hgi
    have := doubt_in (L := B) (v := rotS A.length (ids v)) j hjl (by omega) ((rotS_bit _ (by omega) _ hnn j).2 ⟨(i : Int), (ids_mem v i).2 ⟨by omega, by omega, by rw [Int.toNat_natCast]; exact hv⟩, by omega, hj⟩) (by rw [hgi]; exact hk)
    rw [hgi] at this
    exact this
  have hback : ∀ z ∈ doubtsOf B (rotS A.length (ids v)), z ∈ (doubtsOf A v).map (rotN A.length) := by
    intro z hz
    obtain ⟨j, hjl, hs, hk, rfl⟩ := doubt_mem hz
    obtain ⟨x, hx, hxn, hxr⟩ := (rotS_bit _ (by omega) _ hnn j).1 hs
    obtain ⟨x0, x1, x2⟩ := (ids_mem v x).1 hx
    obtain ⟨i, rfl⟩ := Int.eq_ofNat_of_zero_le x0
    have hi : i < A.length := by omega
    have hgi := h.get i hi
    rw [hxr, Int.toNat_natCast] at hgi
    obtain ⟨_, hgi⟩ := List.getElem?_eq_some_iff.1 hgi
    rw [Int.toNat_natCast] at x2
    rw [hgi] at hk ⊢
    exact List.mem_map.2 ⟨_, doubt_in (L := A) i hi (by omega) x2 hk, rfl⟩
  have n1 : (doubtsOf A v).Pairwise (fun a b => a.of_ < b.of_) := doubts_lt hA v
  have hr : ∀ x ∈ doubtsOf A v, 0 ≤ x.of_ ∧ x.of_ < A.length := by
    intro x hx
    obtain ⟨i, hi, -, -, rfl⟩ := doubt_mem hx
    have ho := (hA.each i hi).1
    show 0 ≤ A[i].of_ ∧ A[i].of_ < A.length
    omega
  have hdec : DecidableEq Nt := fun a b => Classical.propDecidable (a = b)
  refine ⟨Nat.le_antisymm ?_ ?_, hgo⟩
  · have := @nodup_leN Nt hdec ((doubtsOf A v).map (rotN A.length)) (doubtsOf B (rotS A.length (ids v))) (List.pairwise_map.2 (n1.imp_of_mem (fun {a b} ha hb hab e => by
      obtain ⟨a0, a1⟩ := hr a ha
      obtain ⟨b0, b1⟩ := hr b hb
      have := rotI_inj a0 a1 b0 b1 (congrArg Nt.of_ e)
      omega))) (fun z hz => by obtain ⟨x, hx, rfl⟩ := List.mem_map.1 hz; exact hgo x hx)
    rw [List.length_map] at this
    exact this
  · have := @nodup_leN Nt hdec (doubtsOf B (rotS A.length (ids v))) ((doubtsOf A v).map (rotN A.length)) ((doubts_lt hB _).imp (fun hab e => by subst e; omega)) hback
    rw [List.length_map] at this
    exact this
end Go.Proofs.Ytfnolmlmmimehaa
