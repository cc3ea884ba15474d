/-
  Who is known, as data.
-/
import Derived.Test.YtfnolmlmmimehaaInferB
namespace Go.Proofs.Ytfnolmlmmimehaa
set_option linter.unusedSimpArgs false
set_option linter.unusedVariables false
theorem unionL_snoc (s : BitVec 128) (l : List (BitVec 128)) (x : BitVec 128) : unionL s (l ++ [x]) = Ear.clean (unionL s l ||| x) := by unfold unionL; rw [List.foldl_append]; rfl
def anyB (l : List (BitVec 128)) (i : Nat) : Bool := l.any fun v => v.getLsbD i
theorem union_bit (l : List (BitVec 128)) (i : Nat) : (unionL 0#128 l).getLsbD i = (anyB l i && decide (i < 100)) := by
  have key : ∀ k, k ≤ l.length → (unionL 0#128 (l.take k)).getLsbD i = (anyB (l.take k) i && decide (i < 100)) := by
    intro k
    induction k with
    | zero => intro _; rw [List.take_zero]; simp [unionL, anyB]
    | succ k ih =>
      intro hk
      have hlt : k < l.length := by omega
      rw [List.take_succ_eq_append_getElem hlt, unionL_snoc, Ear.clean_bit, BitVec.getLsbD_or, ih (by omega)]
      unfold anyB
      rw [List.any_append]
      by_cases h : i < 100 <;> simp [h]
  have := key l.length (Nat.le_refl _)
  rw [List.take_length] at this
  exact this
theorem known_bit (t : Tl) (i : Nat) : (knownT t).getLsbD i = ((t.rep.getLsbD i || anyB t.hs i) && decide (i < 100)) := by
  unfold knownT
  rw [Ear.clean_bit, BitVec.getLsbD_or, union_bit]
  by_cases h : i < 100 <;> simp [h]
theorem withV_get (s : BitVec 128) (x : Int) (hx : 0 ≤ x ∧ x < 100) (i : Nat) : (withV s x).getLsbD i = ((s.getLsbD i && decide (i < 100)) || decide ((i : Int) = x)) := by
  obtain ⟨k, rfl⟩ := Int.eq_ofNat_of_zero_le hx.1
  have hk : k < 100 := by omega
  unfold withV
  have e : decide ((i : Int) = (k : Int)) = decide (i = k) := by rw [decide_eq_decide]; omega
  rw [if_pos hx, Int.toNat_natCast, BitVec.getLsbD_or, Ear.clean_bit, Ear.one_bit, e]
  simp [show k < 128 by omega]
theorem known_new {n f self round : Int} {own : BitVec 128} (h : newE n f self round own = 0) (hs : 0 ≤ self ∧ self < 100) : knownT (newT n f self round own) = withV (Ear.clean (own ||| 0#128)) self := by
  apply BitVec.eq_of_getLsbD_eq
  intro i hi
  rw [known_bit, withV_get _ _ hs, Ear.clean_bit, BitVec.getLsbD_or]
  have : (newT n f self round own).rep = withV 0#128 self ∧ (newT n f self round own).hs = [own] := ⟨rfl, rfl⟩
  rw [this.1, this.2, withV_get _ _ hs]
  unfold anyB
  by_cases h1 : i < 100
  · simp [h1, Bool.or_comm]
  · have : ¬ ((i : Int) = self) := by omega
    simp [h1, this]
theorem known_add (t : Tl) (from_ : Int) (heard : BitVec 128) (hx : 0 ≤ from_ ∧ from_ < 100) : knownT (t.add from_ heard) = withV (Ear.clean (knownT t ||| heard)) from_ := by
  apply BitVec.eq_of_getLsbD_eq
  intro i hi
  rw [known_bit, withV_get _ _ hx, Ear.clean_bit, BitVec.getLsbD_or, known_bit]
  have : (t.add from_ heard).rep = withV t.rep from_ ∧ (t.add from_ heard).hs = t.hs ++ [heard] := ⟨rfl, rfl⟩
  rw [this.1, this.2, withV_get _ _ hx]
  unfold anyB
  rw [List.any_append]
  by_cases h1 : i < 100
  · simp only [h1, decide_true, Bool.and_true, List.any_cons, List.any_nil, Bool.or_false]
    cases t.rep.getLsbD i <;> cases (t.hs.any fun v => v.getLsbD i) <;> cases heard.getLsbD i <;> simp
  · have : ¬ ((i : Int) = from_) := by omega
    simp [h1, this]
/-- All that a tally has heard are ids below n. -/
structure InN (t : Tl) : Prop where
  rep : ∀ i, t.rep.getLsbD i = true → (i : Int) < t.n
  hs : ∀ v ∈ t.hs, ∀ i, v.getLsbD i = true → (i : Int) < t.n
theorem within_bit {v : BitVec 128} {n : Int} (h : within v n = true) (h2 : n ≤ 100) (i : Nat) (hi : v.getLsbD i = true) : (i : Int) < n := by
  unfold within at h
  rw [decide_eq_true_eq] at h
  have := congrArg (fun x : BitVec 128 => x.getLsbD i) h
  simp only [BitVec.getLsbD_and, hi, Bool.true_and] at this
  have hc : Ear.clampN n ≤ 100 := by unfold Ear.clampN; split; omega; split <;> omega
  rw [Ear.full_bit _ _ hc, decide_eq_true_eq] at this
  unfold Ear.clampN at this
  split at this
  · omega
  · split at this <;> omega
theorem inN_new {n f self round : Int} {own : BitVec 128} (hn : n ≤ 100) (hs : 0 ≤ self ∧ self < n) (hw : within own n = true) : InN (newT n f self round own) := by
  refine ⟨fun i hi => ?_, fun v hv i hi => ?_⟩
  · have e : (newT n f self round own).rep = withV 0#128 self := rfl
    rw [e, withV_get _ _ ⟨hs.1, by omega⟩] at hi
    simp at hi
    show (i : Int) < n
    omega
  · have e : (newT n f self round own).hs = [own] := rfl
    rw [e] at hv
    simp at hv
    subst hv
    exact within_bit hw hn i hi
theorem inN_add {t : Tl} {from_ : Int} {heard : BitVec 128} (h : InN t) (hn : t.n ≤ 100) (hf : 0 ≤ from_ ∧ from_ < t.n) (hw : within heard t.n = true) : InN (t.add from_ heard) := by
  refine ⟨fun i hi => ?_, fun v hv i hi => ?_⟩
  · have e : (t.add from_ heard).rep = withV t.rep from_ := rfl
    rw [e, withV_get _ _ ⟨hf.1, by omega⟩] at hi
    show (i : Int) < t.n
    simp only [Bool.or_eq_true, Bool.and_eq_true, decide_eq_true_eq] at hi
    rcases hi with ⟨hi, -⟩ | hi
    · exact h.rep i hi
    · omega
  · have e : (t.add from_ heard).hs = t.hs ++ [heard] := rfl
    rw [e] at hv
    show (i : Int) < t.n
    rcases List.mem_append.1 hv with hv | hv
    · exact h.hs v hv i hi
    · simp at hv
      subst hv
      exact within_bit hw hn i hi
theorem known_in {t : Tl} (h : InN t) (hn : t.n ≤ 100) (i : Nat) (hi : (knownT t).getLsbD i = true) : i < t.n.toNat := by
  rw [known_bit] at hi
  simp only [Bool.and_eq_true, Bool.or_eq_true] at hi
  obtain ⟨hi, -⟩ := hi
  have : (i : Int) < t.n := by
    rcases hi with hi | hi
    · exact h.rep i hi
    · unfold anyB at hi
      rw [List.any_eq_true] at hi
      obtain ⟨v, hv, hb⟩ := hi
      exact h.hs v hv i hb
  omega
/-- What is missing, and what is known, are all; they have nothing in common. -/
theorem miss_known {t : Tl} (h : InN t) (h0 : 0 ≤ t.n) (hn : t.n ≤ 100) : Ear.clean (Ear.clean (Ear.full t.n.toNat &&& ~~~(knownT t)) ||| knownT t) = Ear.full t.n.toNat ∧ Ear.clean (Ear.clean (Ear.full t.n.toNat &&& ~~~(knownT t)) &&& knownT t) = 0#128 := by
  have hm : t.n.toNat ≤ 100 := by omega
  constructor
  · apply BitVec.eq_of_getLsbD_eq
    intro i hi
    rw [Ear.clean_bit, BitVec.getLsbD_or, Ear.clean_bit, BitVec.getLsbD_and, BitVec.getLsbD_not, Ear.full_bit _ _ hm]
    have hk := known_in h hn i
    by_cases h1 : i < t.n.toNat
    · have h100 : i < 100 := by omega
      simp [h1, h100, hi]
    · have : (knownT t).getLsbD i = false := by
        cases hq : (knownT t).getLsbD i with
        | false => rfl
        | true => exact absurd (hk hq) h1
      simp [h1, this]
  · apply BitVec.eq_of_getLsbD_eq
    intro i hi
    rw [Ear.clean_bit, BitVec.getLsbD_and, Ear.clean_bit, BitVec.getLsbD_and, BitVec.getLsbD_not]
    cases hq : (knownT t).getLsbD i <;> simp [hq]
theorem inN_take {t : Tl} {r : Rl} (hr : Rel t r) (h : InN t) (from_ round : Int) (heard : BitVec 128) : InN (takeT t from_ round heard) ∧ (takeRV r from_ round heard = (1, 0) → takeT t from_ round heard = t.add from_ heard ∧ 0 ≤ from_ ∧ from_ < 100) ∧ (takeRV r from_ round heard ≠ (1, 0) → takeT t from_ round heard = t) := by
  have hv := hr.takeV from_ round heard
  have hn := hr.hn
  have h2 := hr.ok.h2
  by_cases hc : takeRV r from_ round heard = (1, 0)
  · have hb := takeRV_one hc
    have ht : takeT t from_ round heard = t.add from_ heard := by unfold takeT; rw [hv, if_pos hc]
    rw [ht]
    have h3 : 0 ≤ from_ ∧ from_ < r.n ∧ within heard r.n = true := ⟨hb.1, hb.2.1, hb.2.2.1⟩
    exact ⟨inN_add h (by omega) ⟨h3.1, by omega⟩ (by rw [hn]; exact h3.2.2), fun _ => ⟨rfl, h3.1, by omega⟩, fun hne => absurd hc hne⟩
  · have ht : takeT t from_ round heard = t := by unfold takeT; rw [hv, if_neg hc]
    rw [ht]
    exact ⟨h, fun e => absurd e hc, fun _ => rfl⟩
end Go.Proofs.Ytfnolmlmmimehaa
