/-
  What quorums know of what is covered: data alone.
-/
import Derived.Test.YtfnolmlmmimehaaInferE
import Derived.Test.YtfnolmlmmimehaaInferF
namespace Go.Proofs.Ytfnolmlmmimehaa
set_option linter.unusedSimpArgs false
set_option linter.unusedVariables false
theorem nodup_le {α : Type} [DecidableEq α] : ∀ (l m : List α), l.Nodup → (∀ x ∈ l, x ∈ m) → l.length ≤ m.length
  | [], _, _, _ => Nat.zero_le _
  | a :: t, m, hl, hm => by
    have hl' := List.nodup_cons.1 hl
    have ha := hm a List.mem_cons_self
    have h1 := nodup_le t (m.erase a) hl'.2 (fun x hx => by
      have hne : x ≠ a := fun e => hl'.1 (e ▸ hx)
      exact (List.mem_erase_of_ne hne).2 (hm x (List.mem_cons_of_mem _ hx)))
    have h2 := List.length_erase_of_mem ha
    have h3 : 0 < m.length := List.length_pos_of_mem ha
    rw [List.length_cons]
    omega
def setOf (heard : List (BitVec 128)) (x : Int) : BitVec 128 := heard.getD x.toNat 0#128
theorem setOf_nat (heard : List (BitVec 128)) (q : Nat) (hq : q < heard.length) : setOf heard (q : Int) = heard[q] := by
  unfold setOf
  rw [Int.toNat_natCast, List.getD_eq_getElem?_getD, List.getElem?_eq_getElem hq]
  rfl
/-- A document's tally of replies that tell what was heard. -/
structure Qr (n f : Int) (heard : List (BitVec 128)) (r : Rl) : Prop where
  ok : r.Ok
  hn : r.n = n
  hf : r.f = f
  hround : r.round = 1
  nodup : r.who.Nodup
  inn : ∀ x ∈ r.who, 0 ≤ x ∧ x < n
  sets : r.sets = r.who.map (setOf heard)
theorem Qr.new {n f self : Int} {heard : List (BitVec 128)} {own : BitVec 128} (h : newE n f self 1 own = 0) (hs : 0 ≤ self ∧ self < n) (ho : setOf heard self = own) : Qr n f heard ⟨n, f, 1, [self], [own]⟩ := by
  refine ⟨(rel_new h).ok, rfl, rfl, rfl, by simp, ?_, by simp [ho]⟩
  intro x hx
  simp at hx
  subst hx
  exact hs
theorem Qr.take {n f : Int} {heard : List (BitVec 128)} {r : Rl} (h : Qr n f heard r) (q : Nat) (hq : q < heard.length) : Qr n f heard (takeRT r q 1 heard[q]) := by
  have hok := h.ok.take (q : Int) 1 heard[q]
  unfold takeRT at hok ⊢
  split at hok
  · rename_i h1
    rw [if_pos h1]
    obtain ⟨h2, h3, h4, h5, h6, h7⟩ := takeRV_one h1
    rw [h.hn] at h3
    refine ⟨hok, h.hn, h.hf, h.hround, ?_, ?_, ?_⟩
    · show (r.who ++ [(q : Int)]).Nodup
      rw [List.nodup_append]
      refine ⟨h.nodup, by simp, ?_⟩
      intro a ha b hb
      simp at hb
      subst hb
      intro e
      subst e
      have : r.who.contains (q : Int) = true := by simpa using ha
      rw [this] at h6
      cases h6
    · intro x hx
      rcases List.mem_append.1 hx with hx | hx
      · exact h.inn x hx
      · simp at hx
        subst hx
        exact ⟨h2, h3⟩
    · show r.sets ++ [heard[q]] = (r.who ++ [(q : Int)]).map (setOf heard)
      rw [List.map_append, ← h.sets, List.map_cons, List.map_nil, setOf_nat _ _ hq]
  · rename_i h1
    rw [if_neg h1]
    exact h
theorem ready_stay {r : Rl} (h : readyR r = true) (a b : Int) (c : BitVec 128) : takeRT r a b c = r := by
  unfold takeRT
  rw [if_neg]
  intro h1
  have := (takeRV_one h1).2.2.2.2.2
  rw [h] at this
  cases this
theorem who_stay {r : Rl} (a b : Int) (c : BitVec 128) {x : Int} (h : x ∈ r.who) : x ∈ (takeRT r a b c).who := by
  unfold takeRT
  split
  · exact List.mem_append_left _ h
  · exact h
/-- Behind a reply of one of the nodes it is in, or the tally is ready. -/
theorem Qr.did {n f : Int} {heard : List (BitVec 128)} {r : Rl} (h : Qr n f heard r) (hl : (heard.length : Int) = n) (ha : allIn n heard = true) (q : Nat) (hq : q < heard.length) :
    readyR (takeRT r q 1 heard[q]) = true ∨ (q : Int) ∈ (takeRT r q 1 heard[q]).who := by
  cases hr : readyR r with
  | true => left; rw [ready_stay hr]; exact hr
  | false =>
    right
    cases hc : r.who.contains (q : Int) with
    | true => exact who_stay _ _ _ (by simpa using hc)
    | false =>
      have h1 : takeRV r q 1 heard[q] = (1, 0) := by
        unfold takeRV
        have e1 : (decide ((q : Int) < 0) || decide (r.n ≤ (q : Int))) = false := by
          rw [Bool.or_eq_false_iff, decide_eq_false_iff_not, decide_eq_false_iff_not, h.hn]; omega
        have e2 : within heard[q] r.n = true := by rw [h.hn]; exact allIn_get ha q hq
        have e3 : ((1 : Int) != r.round) = false := by rw [h.hround]; rfl
        rw [if_neg (by rw [e1]; decide), if_neg (by rw [e2]; decide), if_neg (by rw [e3]; decide), if_neg (by rw [hc]; decide), if_neg (by rw [hr]; decide)]
      unfold takeRT
      rw [if_pos h1]
      exact List.mem_append_right _ (by simp)
/-- Where k nodes have replied. -/
def Upto (r : Rl) (k : Nat) : Prop := readyR r = true ∨ ∀ j, j < k → (j : Int) ∈ r.who
theorem Upto.zero (r : Rl) : Upto r 0 := .inr fun j hj => absurd hj (Nat.not_lt_zero _)
theorem Upto.succ {n f : Int} {heard : List (BitVec 128)} {r : Rl} (h : Qr n f heard r) (hl : (heard.length : Int) = n) (ha : allIn n heard = true) (q : Nat) (hq : q < heard.length) (hu : Upto r q) : Upto (takeRT r q 1 heard[q]) (q + 1) := by
  rcases hu with hu | hu
  · left; rw [ready_stay hu]; exact hu
  · rcases h.did hl ha q hq with hd | hd
    · exact .inl hd
    · right
      intro j hj
      by_cases e : j = q
      · subst e; exact hd
      · exact who_stay _ _ _ (hu j (by omega))
theorem Qr.ready {n f : Int} {heard : List (BitVec 128)} {r : Rl} (h : Qr n f heard r) (hf : 0 ≤ f) (hu : Upto r n.toNat) : readyR r = true := by
  rcases hu with hu | hu
  · exact hu
  · have h1 := nodup_le ((List.range n.toNat).map Int.ofNat) r.who (List.pairwise_map.2 (List.nodup_range.imp (fun hne e => hne (Int.ofNat.inj e)))) (by
      intro x hx
      obtain ⟨j, hj, rfl⟩ := List.mem_map.1 hx
      exact hu j (List.mem_range.1 hj))
    rw [List.length_map, List.length_range] at h1
    have h2 := h.ok.h1
    unfold readyR
    rw [h.hn] at h2 ⊢
    rw [h.hf]
    simp only [Bool.and_eq_true, decide_eq_true_eq]
    omega
theorem cover_bit (f : Int) (l : List (BitVec 128)) (k : Nat) (hk : k ≤ 100) (i : Nat) : (coverTo f l k).getLsbD i = (decide (i < k) && decide (f < (cntL l (i : Int) : Int))) := by
  induction k with
  | zero => rw [coverTo_zero]; simp
  | succ k ih =>
    rw [coverTo_succ]
    have h0 := ih (by omega)
    split
    · rename_i h1
      rw [withV_get _ _ ⟨by omega, by omega⟩, h0]
      by_cases e : i = k
      · subst e; simp [h1]
      · have e1 : ¬ ((i : Int) = (k : Int)) := by omega
        by_cases h2 : i < k
        · have : i < k + 1 ∧ i < 100 := by omega
          simp [h2, this.1, this.2, e1]
        · have : ¬ (i < k + 1) := by omega
          simp [h2, this, e1]
    · rename_i h1
      rw [h0]
      by_cases e : i = k
      · subst e; simp [h1]
      · by_cases h2 : i < k
        · have : i < k + 1 := by omega
          simp [h2, this]
        · have : ¬ (i < k + 1) := by omega
          simp [h2, this]
theorem cnt_range (l : List (BitVec 128)) (i : Int) : cntL l i = ((List.range l.length).filter (fun (j : Nat) => hasV (setOf l (j : Int)) i)).length := by
  have h : l = (List.range l.length).map (fun (j : Nat) => setOf l (j : Int)) := by
    apply List.ext_getElem
    · simp
    · intro j h1 h2
      rw [List.getElem_map, List.getElem_range, setOf_nat _ _ h1]
  unfold cntL
  conv => lhs; rw [h]
  rw [List.filter_map, List.length_map]
  rfl
theorem hasV_nat (v : BitVec 128) (i : Nat) (hi : i < 100) : hasV v (i : Int) = v.getLsbD i := by
  unfold hasV
  rw [if_pos ⟨by omega, by omega⟩, Int.toNat_natCast]
theorem Qr.meets {n f : Int} {heard : List (BitVec 128)} {r : Rl} (h : Qr n f heard r) (hl : (heard.length : Int) = n) (hr : readyR r = true) (i : Int) (hc : f < (cntL heard i : Int)) : ∃ x ∈ r.who, hasV (setOf heard x) i = true := by
  by_cases hex : ∃ x ∈ r.who, hasV (setOf heard x) i = true
  · exact hex
  · exfalso
    rw [cnt_range] at hc
    have h1 := nodup_le ((((List.range heard.length).filter (fun (j : Nat) => hasV (setOf heard (j : Int)) i)).map Int.ofNat) ++ r.who) ((List.range heard.length).map Int.ofNat) (by
        rw [List.nodup_append]
        refine ⟨List.pairwise_map.2 ((List.nodup_range.filter _).imp (fun hne e => hne (Int.ofNat.inj e))), h.nodup, ?_⟩
        intro a ha b hb e
        subst e
        obtain ⟨j, hj, rfl⟩ := List.mem_map.1 ha
        exact hex ⟨_, hb, (List.mem_filter.1 hj).2⟩) (by
        intro x hx
        rcases List.mem_append.1 hx with hx | hx
        · obtain ⟨j, hj, rfl⟩ := List.mem_map.1 hx
          exact List.mem_map_of_mem (List.mem_filter.1 hj).1
        · obtain ⟨h1, h2⟩ := h.inn x hx
          obtain ⟨j, rfl⟩ := Int.eq_ofNat_of_zero_le h1
          exact List.mem_map_of_mem (List.mem_range.2 (by omega)))
    rw [List.length_append, List.length_map, List.length_map, List.length_range] at h1
    unfold readyR at hr
    rw [h.hn, h.hf] at hr
    simp only [Bool.and_eq_true, decide_eq_true_eq] at hr
    omega
theorem Qr.known {n f : Int} {heard : List (BitVec 128)} {t : Tl} {r : Rl} (h : Qr n f heard r) (hrel : Rel t r) (hl : (heard.length : Int) = n) (hr : readyR r = true) (i : Nat) (hi : (coverTo f heard n.toNat).getLsbD i = true) : (knownT t).getLsbD i = true := by
  have h2 := h.ok.h2
  rw [h.hn] at h2
  rw [cover_bit _ _ _ (by omega)] at hi
  simp only [Bool.and_eq_true, decide_eq_true_eq] at hi
  have hi100 : i < 100 := by omega
  obtain ⟨x, hx, hb⟩ := h.meets hl hr _ hi.2
  rw [hasV_nat _ _ hi100] at hb
  rw [known_bit, hrel.hhs, h.sets]
  have : anyB (r.who.map (setOf heard)) i = true := by
    unfold anyB
    rw [List.any_eq_true]
    exact ⟨_, List.mem_map_of_mem hx, hb⟩
  rw [this]
  simp [hi100]
theorem Qr.all {n f : Int} {heard : List (BitVec 128)} {t : Tl} {r : Rl} (h : Qr n f heard r) (hrel : Rel t r) (hl : (heard.length : Int) = n) (hr : readyR r = true) :
    Ear.clean (coverTo f heard n.toNat &&& ~~~(knownT t)) = 0#128 ∧ Ear.clean (Ear.clean (Ear.full n.toNat &&& ~~~(knownT t)) &&& coverTo f heard n.toNat) = 0#128 := by
  constructor
  · apply BitVec.eq_of_getLsbD_eq
    intro i hi
    rw [Ear.clean_bit, BitVec.getLsbD_and, BitVec.getLsbD_not]
    have hk := h.known hrel hl hr i
    cases hc : (coverTo f heard n.toNat).getLsbD i with
    | false => simp
    | true => rw [hk hc]; simp
  · apply BitVec.eq_of_getLsbD_eq
    intro i hi
    rw [Ear.clean_bit, BitVec.getLsbD_and, Ear.clean_bit, BitVec.getLsbD_and, BitVec.getLsbD_not]
    have hk := h.known hrel hl hr i
    cases hc : (coverTo f heard n.toNat).getLsbD i with
    | false => simp
    | true => rw [hk hc]; simp
end Go.Proofs.Ytfnolmlmmimehaa
