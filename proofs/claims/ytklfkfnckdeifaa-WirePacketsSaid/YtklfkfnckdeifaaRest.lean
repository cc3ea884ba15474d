/-
  A rule for regions that draw their order: a head of operations that come to one value each in a class of worlds; then the rest, in every order that is left.
  A rule for regions that draw their order: a head of operations that come to one value each in a class of worlds; then the rest, in every order that is left.
-/
import Derived.Test.YtklfkfnckdeifaaCut
import Derived.Deep.RegionWith
section
namespace Go.Proofs.Ytklfkfnckdeifaa
set_option linter.unusedSimpArgs false
set_option linter.unusedVariables false
open Go.RowKit
namespace Ear
namespace Pl
variable {P : Program} {ops : Array Oper} {md : Region.Mode} {C : World → Prop}

def tailsB (md : Region.Mode) (ops : Array Oper) (n : Nat) : Bool :=
  Region.sinkB md ops (n - 1) && (List.range ops.size).all fun t => decide (t < n) || (List.range t).any fun j => decide (n - 1 ≤ j) && Region.waitsFor md ops t j
theorem tails_sink {n : Nat} {listed : Array Bool} (hs : Region.sinkB md ops (n - 1) = true) (hn : 0 < n) (hnz : n ≤ ops.size) (inv : HeadInv md ops n listed) :
    ∀ (d i : Nat), n - i = d → i < n → listed.getD i true = false → listed.getD (n - 1) true = false := by
  intro d
  induction d using Nat.strongRecOn with
  | _ d ih =>
    intro i hd hi hun
    by_cases hin : i = n - 1
    · subst hin; exact hun
    · have h1 := List.all_eq_true.1 hs i (List.mem_range.2 (by omega))
      obtain ⟨j, hj, hj2⟩ := List.any_eq_true.1 h1
      simp only [Bool.and_eq_true, decide_eq_true_eq] at hj2
      obtain ⟨oj, hoj, e, he, hb, hon⟩ := Region.waitsFor_spec hj2.2
      have hjn : j < n := by have := List.mem_range.1 hj; omega
      cases hl : listed.getD j false with
      | true =>
        have h2 := inv.closed j oj hoj hl e he hb
        rw [hon, getD_both hun] at h2
        cases h2
      | false =>
        exact ih (n - j) (by omega) j rfl hjn (getD_in (by rw [inv.size]; omega) hl)
theorem tails_wait {n : Nat} {listed : Array Bool} (hB : tailsB md ops n = true) (hn : 0 < n) (hnz : n ≤ ops.size) (inv : HeadInv md ops n listed) (i : Nat) (hi : i < n) (hun : listed.getD i true = false) (t : Nat) (ht : n ≤ t) : t ∉ Region.ready md ops listed := by
  intro hr
  simp only [tailsB, Bool.and_eq_true] at hB
  have hlast := tails_sink hB.1 hn hnz inv _ i rfl hi hun
  obtain ⟨_, ot, hot, hall⟩ := mem_ready.1 hr
  have htlt : t < ops.size := (Array.getElem?_eq_some_iff.1 hot).1
  have h1 := List.all_eq_true.1 hB.2 t (List.mem_range.2 htlt)
  simp only [Bool.or_eq_true, decide_eq_true_eq] at h1
  rcases h1 with h1 | h1
  · omega
  · obtain ⟨j, hj, hj2⟩ := List.any_eq_true.1 h1
    simp only [Bool.and_eq_true, decide_eq_true_eq] at hj2
    obtain ⟨o', ho', e, he, hb, hon⟩ := Region.waitsFor_spec hj2.2
    have : o' = ot := Option.some.inj (ho'.symm.trans hot)
    subst this
    have h2 := hall e he hb
    rw [hon] at h2
    by_cases hjn : j = n - 1
    · subst hjn; rw [getD_both hlast] at h2; cases h2
    · rw [getD_both (inv.tail j (by omega) (by have := List.mem_range.1 hj; omega))] at h2; cases h2

theorem wpAnyL_first' {n i : Nat} {oi : Oper} {v : Value} {L : Array Bool → Act → Prop} (hi : ops[i]? = some oi) (hsel : ∀ (j : Nat) (o : Oper) cs b, ops[j]? = some o → o.op ≠ .select cs b)
    (hB : tailsB md ops n = true) (hn0 : 0 < n) (hn : n ≤ ops.size) (hin : i < n)
    (hdone : ∀ listed a, L listed a → ∀ j ∈ Region.ready md ops listed, n ≤ j) :
    ∀ (f : Nat) (listed : Array Bool) (a : Act), HeadInv md ops n listed →
      (∀ j oj, ops[j]? = some oj → j ≠ i → listed.getD j true = false → (∀ e ∈ oj.after, Region.binds md e = true → e.on ≠ i) → oi.apart ops oj = true) →
      i ∈ Region.ready md ops listed → Yields P ops C oi v a →
      wpAnyL P md ops C n L f (listed.setIfInBounds i true) (a.put oi.dst v) → wpAnyL P md ops C n L (f + 1) listed a := by
  intro f
  induction f with
  | zero =>
    intro listed a inv _ hr hy H
    have hun := (mem_ready.1 hr).1
    refine ⟨fun h => (by rw [h] at hr; cases hr), fun j hj => ?_⟩
    have hjn : j < n := by
      rcases Nat.lt_or_ge j n with h | h
      · exact h
      · exact absurd hj (tails_wait hB hn0 hn inv i hin hun j h)
    refine ⟨hjn, ?_⟩
    by_cases hji : j = i
    · subst hji; exact hy.qOp hi H
    · have := hdone _ _ H j (ready_mono hj hji)
      omega
  | succ f ih =>
    intro listed a inv hfree hr hy H
    have hun := (mem_ready.1 hr).1
    refine ⟨fun h => (by rw [h] at hr; cases hr), fun j hj => ?_⟩
    have hjn : j < n := by
      rcases Nat.lt_or_ge j n with h | h
      · exact h
      · exact absurd hj (tails_wait hB hn0 hn inv i hin hun j h)
    refine ⟨hjn, ?_⟩
    by_cases hji : j = i
    · subst hji; exact hy.qOp hi H
    · have h1 := (H.2 j (ready_mono hj hji)).2
      obtain ⟨hjun, oj, hoj, hall⟩ := mem_ready.1 hj
      have hnot : ∀ e ∈ oj.after, Region.binds md e = true → e.on ≠ i := fun e he hb heq => by
        have h1 := hall e he hb
        rw [heq, getD_both hun] at h1
        cases h1
      have h2 := qOp_put hoj (hfree j oj hoj hji hjun hnot) (fun cs b => hsel i oi cs b hi) (fun cs b => hsel j oj cs b hoj) hy h1
      have hfree' : ∀ k ok, ops[k]? = some ok → k ≠ i → (listed.setIfInBounds j true).getD k true = false →
          (∀ e ∈ ok.after, Region.binds md e = true → e.on ≠ i) → oi.apart ops ok = true := fun k ok hk hki hun hno => by
        refine hfree k ok hk hki ?_ hno
        by_cases hjk : j = k
        · subst hjk; exact hjun
        · rw [getD_set_ne true hjk] at hun; exact hun
      refine qOp_mono (fun a' h3 => ih (listed.setIfInBounds j true) a' (inv.set hj hjn) hfree' (ready_mono hr (Ne.symm hji)) h3.1 ?_) h2
      rw [Array.setIfInBounds_comm _ _ hji]
      exact h3.2

/-- The head in the text's order; behind it just the head is done, and what may come up lies behind it. -/
def lexHeadR (md : Region.Mode) (ops : Array Oper) (n : Nat) (L0 : Array Bool) : Nat → Nat → Array Bool → Bool
  | 0, _, listed => listed == L0 && (Region.ready md ops listed).all fun j => decide (n ≤ j)
  | f + 1, k, listed => (Region.ready md ops listed).contains k && Region.free md ops listed k && lexHeadR md ops n L0 f (k + 1) (listed.setIfInBounds k true)
def lexRestB (md : Region.Mode) (ops : Array Oper) (n : Nat) (L0 : Array Bool) : Bool :=
  Region.noSelect ops && decide (0 < n) && decide (n ≤ ops.size) && tailsB md ops n && lexHeadR md ops n L0 n 0 (Array.replicate ops.size false)

theorem wpAnyL_lex' {n : Nat} {L0 : Array Bool} {Lq : Act → Prop} (hsel : Region.noSelect ops = true) (hT : tailsB md ops n = true) (hn0 : 0 < n) (hn : n ≤ ops.size) :
    ∀ (l : List Oper) (k : Nat) (listed : Array Bool) (a : Act), (∀ j, j < l.length → l[j]? = ops[k + j]?) → k + l.length = n → HeadInv md ops n listed →
    lexHeadR md ops n L0 l.length k listed = true → wpQ P ops C Lq l a →
    wpAnyL P md ops C n (fun listed' a' => (listed' = L0 ∧ ∀ j ∈ Region.ready md ops listed', n ≤ j) ∧ Lq a') l.length listed a
  | [], k, listed, a, _, hk, _, hB, h => by
    have : k = n := by simpa using hk
    subst this
    simp only [List.length_nil, lexHeadR, Bool.and_eq_true, beq_iff_eq, List.all_eq_true, decide_eq_true_eq] at hB
    exact ⟨⟨hB.1, hB.2⟩, h⟩
  | o :: l, k, listed, a, hl, hk, inv, hB, h => by
    have h0 : ops[k]? = some o := by simpa using (hl 0 (by simp)).symm
    simp only [List.length_cons, lexHeadR, Bool.and_eq_true] at hB
    obtain ⟨⟨hr, hf⟩, hB'⟩ := hB
    have hkn : k < n := by simp only [List.length_cons] at hk; omega
    have hr' : k ∈ Region.ready md ops listed := by simpa using hr
    have hst : qOp P ops C k (wpQ P ops C Lq l) a := by unfold qOp; simp only [h0]; exact h
    obtain ⟨v, hy, hK⟩ := yields_of_qOp h0 hst
    exact wpAnyL_first' h0 (Region.noSelect_spec hsel) hT hn0 hn hkn (fun listed' a' hL => hL.1.2) l.length listed a inv (Region.free_spec h0 hf) hr' hy
      (wpAnyL_lex' hsel hT hn0 hn l (k + 1) _ _ (fun j hj => by have := hl (j + 1) (by simp; omega); simpa [Nat.add_assoc, Nat.add_comm 1 j] using this) (by simp only [List.length_cons] at hk; omega) (inv.set hr' hkn) hB' hK)

/-- A region that draws its order: n operations that are quiet in the class C; then the rest, in every order. -/
theorem wp_region_qr {id : Nat} {Q : Exit → Act → World → Prop} {a : Act} {w : World} {l : List Oper} (n : Nat) (L0 : Array Bool) (C : World → Prop) (hm : P.follows .mixedOrders = true) (hB : lexRestB .any l.toArray n L0 = true)
    (hC : C { w with drawn := w.drawn + 1 })
    (h : wpQ P l.toArray C (fun a' => ∀ w', C w' → wpAny P .any l.toArray Q (l.length - n) L0 a' w') (l.take n) a) : (Code.region id l.toArray true).wp P Q a w := by
  simp only [lexRestB, Bool.and_eq_true, decide_eq_true_eq] at hB
  obtain ⟨⟨⟨⟨hsel, hn0⟩, hn⟩, hT⟩, hlex⟩ := hB
  have hn' : n ≤ l.length := by simpa using hn
  have htl : (l.take n).length = n := by simp; omega
  have inv0 : HeadInv .any l.toArray n (Array.replicate l.toArray.size false) :=
    ⟨by simp, fun j oj _ hl => (by rw [getD_replicate_false] at hl; cases hl), fun t _ ht => getD_in (by simpa using ht) (getD_replicate_false _ _)⟩
  have H := wpAnyL_lex' (P := P) (C := C) (md := .any) hsel hT hn0 hn (l.take n) 0 _ a (fun j hj => by
    have hj' : j < n := by rw [htl] at hj; exact hj
    simp [hj']) (by simpa using htl) inv0 (by rw [htl]; exact hlex) h
  refine wp_region_any hm ?_
  have := wpAny_of_head (Q' := Q) (g := l.length - n) (fun listed a' w' hw' hL => by
    obtain ⟨⟨rfl, _⟩, hL⟩ := hL
    exact hL w' hw') _ _ _ { w with drawn := w.drawn + 1 } hC H
  rw [htl] at this
  simpa [show n + (l.length - n) = l.length by omega] using this
theorem wp_region_qrb {id : Nat} {Q : Exit → Act → World → Prop} {a : Act} {w : World} {l : List Oper} (n : Nat) (L0 : Array Bool) (hm : P.follows .mixedOrders = true) (hB : lexRestB .any l.toArray n L0 = true)
    (h : ∀ C : World → Prop, Hid (∀ w', C w' → Below w.heap.size w.drew w') → Hid (∀ w1 w2, C w1 → Below w1.heap.size w1 w2 → C w2) →
      wpQ P l.toArray C (fun a' => ∀ w', Below w.heap.size w.drew w' → wpAny P .any l.toArray Q (l.length - n) L0 a' w') (l.take n) a) : (Code.region id l.toArray true).wp P Q a w :=
  wp_region_qr n L0 (fun w' => Below w.heap.size w.drew w') hm hB (Below.refl _ _) (h _ (fun _ h => h) (fun _ _ h k => h.trans (k.mono h.size)))
end Pl
end Ear
end Go.Proofs.Ytklfkfnckdeifaa
end
section
namespace Go.Proofs.Ytklfkfnckdeifaa
set_option linter.unusedSimpArgs false
set_option linter.unusedVariables false
open Go.RowKit
namespace Ear
namespace Pl
namespace C2
variable {P : Program} {ops : Array Oper} {md : Region.Mode} {C : World → Prop}

/-- The head's last operation waits for the whole head. -/
def tailsA (md : Region.Mode) (ops : Array Oper) (n : Nat) : Bool :=
  Region.sinkB md ops (n - 1) && (List.range ops.size).all fun t => decide (t < n) || (List.range t).any fun j => decide (n - 1 ≤ j) && Region.waitsFor md ops t j
theorem tails_sink {n : Nat} {listed : Array Bool} (hs : Region.sinkB md ops (n - 1) = true) (hn : 0 < n) (hnz : n ≤ ops.size) (inv : HeadInv md ops n listed) :
    ∀ (d i : Nat), n - i = d → i < n → listed.getD i true = false → listed.getD (n - 1) true = false := by
  intro d
  induction d using Nat.strongRecOn with
  | _ d ih =>
    intro i hd hi hun
    by_cases hin : i = n - 1
    · subst hin; exact hun
    · have h1 := List.all_eq_true.1 hs i (List.mem_range.2 (by omega))
      obtain ⟨j, hj, hj2⟩ := List.any_eq_true.1 h1
      simp only [Bool.and_eq_true, decide_eq_true_eq] at hj2
      obtain ⟨oj, hoj, e, he, hb, hon⟩ := Region.waitsFor_spec hj2.2
      have hjn : j < n := by have := List.mem_range.1 hj; omega
      cases hl : listed.getD j false with
      | true =>
        have h2 := inv.closed j oj hoj hl e he hb
        rw [hon, getD_both hun] at h2
        cases h2
      | false =>
        exact ih (n - j) (by omega) j rfl hjn (getD_in (by rw [inv.size]; omega) hl)
theorem tailsA_wait {n : Nat} {listed : Array Bool} (hB : tailsA md ops n = true) (hn : 0 < n) (hnz : n ≤ ops.size) (inv : HeadInv md ops n listed) (i : Nat) (hi : i < n) (hun : listed.getD i true = false) (t : Nat) (ht : n ≤ t) : t ∉ Region.ready md ops listed := by
  intro hr
  simp only [tailsA, Bool.and_eq_true] at hB
  have hlast := tails_sink hB.1 hn hnz inv _ i rfl hi hun
  obtain ⟨_, ot, hot, hall⟩ := mem_ready.1 hr
  have htlt : t < ops.size := (Array.getElem?_eq_some_iff.1 hot).1
  have h1 := List.all_eq_true.1 hB.2 t (List.mem_range.2 htlt)
  simp only [Bool.or_eq_true, decide_eq_true_eq] at h1
  rcases h1 with h1 | h1
  · omega
  · obtain ⟨j, hj, hj2⟩ := List.any_eq_true.1 h1
    simp only [Bool.and_eq_true, decide_eq_true_eq] at hj2
    obtain ⟨o', ho', e, he, hb, hon⟩ := Region.waitsFor_spec hj2.2
    have : o' = ot := Option.some.inj (ho'.symm.trans hot)
    subst this
    have h2 := hall e he hb
    rw [hon] at h2
    by_cases hjn : j = n - 1
    · subst hjn; rw [getD_both hlast] at h2; cases h2
    · rw [getD_both (inv.tail j (by omega) (by have := List.mem_range.1 hj; omega))] at h2; cases h2

/-- The first operation behind the head waits for the whole head, all others for it. -/
def tailsC (md : Region.Mode) (ops : Array Oper) (n : Nat) : Bool :=
  Region.sinkB md ops n && (List.range ops.size).all fun t => decide (t ≤ n) || (List.range t).any fun j => decide (n ≤ j) && Region.waitsFor md ops t j
theorem tailsC_first {n : Nat} {listed : Array Bool} (hs : Region.sinkB md ops n = true) (inv : HeadInv md ops n listed) :
    ∀ (d i : Nat), n - i = d → i < n → listed.getD i true = false → n ∉ Region.ready md ops listed := by
  intro d
  induction d using Nat.strongRecOn with
  | _ d ih =>
    intro i hd hi hun hr
    have h1 := List.all_eq_true.1 hs i (List.mem_range.2 (by omega))
    obtain ⟨j, hj, hj2⟩ := List.any_eq_true.1 h1
    simp only [Bool.and_eq_true, decide_eq_true_eq] at hj2
    obtain ⟨oj, hoj, e, he, hb, hon⟩ := Region.waitsFor_spec hj2.2
    have hjn : j < n + 1 := by have := List.mem_range.1 hj; omega
    by_cases hjn' : j = n
    · subst hjn'
      obtain ⟨_, ot, hot, hall⟩ := mem_ready.1 hr
      have : oj = ot := Option.some.inj (hoj.symm.trans hot)
      subst this
      have h2 := hall e he hb
      rw [hon, getD_both hun] at h2
      cases h2
    · cases hl : listed.getD j false with
      | true =>
        have h2 := inv.closed j oj hoj hl e he hb
        rw [hon, getD_both hun] at h2
        cases h2
      | false => exact ih (n - j) (by omega) j rfl (by omega) (getD_in (by rw [inv.size]; exact (Array.getElem?_eq_some_iff.1 hoj).1) hl) hr
theorem tailsC_wait {n : Nat} {listed : Array Bool} (hB : tailsC md ops n = true) (inv : HeadInv md ops n listed) (i : Nat) (hi : i < n) (hun : listed.getD i true = false) (t : Nat) (ht : n ≤ t) : t ∉ Region.ready md ops listed := by
  simp only [tailsC, Bool.and_eq_true] at hB
  by_cases htn : t = n
  · subst htn; exact tailsC_first hB.1 inv _ i rfl hi hun
  · intro hr
    obtain ⟨_, ot, hot, hall⟩ := mem_ready.1 hr
    have htlt : t < ops.size := (Array.getElem?_eq_some_iff.1 hot).1
    have h1 := List.all_eq_true.1 hB.2 t (List.mem_range.2 htlt)
    simp only [Bool.or_eq_true, decide_eq_true_eq] at h1
    rcases h1 with h1 | h1
    · omega
    · obtain ⟨j, hj, hj2⟩ := List.any_eq_true.1 h1
      simp only [Bool.and_eq_true, decide_eq_true_eq] at hj2
      obtain ⟨o', ho', e, he, hb, hon⟩ := Region.waitsFor_spec hj2.2
      have : o' = ot := Option.some.inj (ho'.symm.trans hot)
      subst this
      have h2 := hall e he hb
      rw [hon, getD_both (inv.tail j (by omega) (by have := List.mem_range.1 hj; omega))] at h2
      cases h2
def tailsB (md : Region.Mode) (ops : Array Oper) (n : Nat) : Bool := tailsA md ops n || tailsC md ops n
theorem tails_wait {n : Nat} {listed : Array Bool} (hB : tailsB md ops n = true) (hn : 0 < n) (hnz : n ≤ ops.size) (inv : HeadInv md ops n listed) (i : Nat) (hi : i < n) (hun : listed.getD i true = false) (t : Nat) (ht : n ≤ t) : t ∉ Region.ready md ops listed := by
  simp only [tailsB, Bool.or_eq_true] at hB
  rcases hB with h | h
  · exact tailsA_wait h hn hnz inv i hi hun t ht
  · exact tailsC_wait h inv i hi hun t ht

theorem wpAnyL_first' {n i : Nat} {oi : Oper} {v : Value} {L : Array Bool → Act → Prop} (hi : ops[i]? = some oi) (hsel : ∀ (j : Nat) (o : Oper) cs b, ops[j]? = some o → o.op ≠ .select cs b)
    (hB : tailsB md ops n = true) (hn0 : 0 < n) (hn : n ≤ ops.size) (hin : i < n)
    (hdone : ∀ listed a, L listed a → ∀ j ∈ Region.ready md ops listed, n ≤ j) :
    ∀ (f : Nat) (listed : Array Bool) (a : Act), HeadInv md ops n listed →
      (∀ j oj, ops[j]? = some oj → j ≠ i → listed.getD j true = false → (∀ e ∈ oj.after, Region.binds md e = true → e.on ≠ i) → oi.apart ops oj = true) →
      i ∈ Region.ready md ops listed → Yields P ops C oi v a →
      wpAnyL P md ops C n L f (listed.setIfInBounds i true) (a.put oi.dst v) → wpAnyL P md ops C n L (f + 1) listed a := by
  intro f
  induction f with
  | zero =>
    intro listed a inv _ hr hy H
    have hun := (mem_ready.1 hr).1
    refine ⟨fun h => (by rw [h] at hr; cases hr), fun j hj => ?_⟩
    have hjn : j < n := by
      rcases Nat.lt_or_ge j n with h | h
      · exact h
      · exact absurd hj (tails_wait hB hn0 hn inv i hin hun j h)
    refine ⟨hjn, ?_⟩
    by_cases hji : j = i
    · subst hji; exact hy.qOp hi H
    · have := hdone _ _ H j (ready_mono hj hji)
      omega
  | succ f ih =>
    intro listed a inv hfree hr hy H
    have hun := (mem_ready.1 hr).1
    refine ⟨fun h => (by rw [h] at hr; cases hr), fun j hj => ?_⟩
    have hjn : j < n := by
      rcases Nat.lt_or_ge j n with h | h
      · exact h
      · exact absurd hj (tails_wait hB hn0 hn inv i hin hun j h)
    refine ⟨hjn, ?_⟩
    by_cases hji : j = i
    · subst hji; exact hy.qOp hi H
    · have h1 := (H.2 j (ready_mono hj hji)).2
      obtain ⟨hjun, oj, hoj, hall⟩ := mem_ready.1 hj
      have hnot : ∀ e ∈ oj.after, Region.binds md e = true → e.on ≠ i := fun e he hb heq => by
        have h1 := hall e he hb
        rw [heq, getD_both hun] at h1
        cases h1
      have h2 := qOp_put hoj (hfree j oj hoj hji hjun hnot) (fun cs b => hsel i oi cs b hi) (fun cs b => hsel j oj cs b hoj) hy h1
      have hfree' : ∀ k ok, ops[k]? = some ok → k ≠ i → (listed.setIfInBounds j true).getD k true = false →
          (∀ e ∈ ok.after, Region.binds md e = true → e.on ≠ i) → oi.apart ops ok = true := fun k ok hk hki hun hno => by
        refine hfree k ok hk hki ?_ hno
        by_cases hjk : j = k
        · subst hjk; exact hjun
        · rw [getD_set_ne true hjk] at hun; exact hun
      refine qOp_mono (fun a' h3 => ih (listed.setIfInBounds j true) a' (inv.set hj hjn) hfree' (ready_mono hr (Ne.symm hji)) h3.1 ?_) h2
      rw [Array.setIfInBounds_comm _ _ hji]
      exact h3.2

/-- The head in the text's order; behind it just the head is done, and what may come up lies behind it. -/
def lexHeadR (md : Region.Mode) (ops : Array Oper) (n : Nat) (L0 : Array Bool) : Nat → Nat → Array Bool → Bool
  | 0, _, listed => listed == L0 && (Region.ready md ops listed).all fun j => decide (n ≤ j)
  | f + 1, k, listed => (Region.ready md ops listed).contains k && Region.free md ops listed k && lexHeadR md ops n L0 f (k + 1) (listed.setIfInBounds k true)
def lexRestB (md : Region.Mode) (ops : Array Oper) (n : Nat) (L0 : Array Bool) : Bool :=
  Region.noSelect ops && decide (0 < n) && decide (n ≤ ops.size) && tailsB md ops n && lexHeadR md ops n L0 n 0 (Array.replicate ops.size false)

theorem wpAnyL_lex' {n : Nat} {L0 : Array Bool} {Lq : Act → Prop} (hsel : Region.noSelect ops = true) (hT : tailsB md ops n = true) (hn0 : 0 < n) (hn : n ≤ ops.size) :
    ∀ (l : List Oper) (k : Nat) (listed : Array Bool) (a : Act), (∀ j, j < l.length → l[j]? = ops[k + j]?) → k + l.length = n → HeadInv md ops n listed →
    lexHeadR md ops n L0 l.length k listed = true → wpQ P ops C Lq l a →
    wpAnyL P md ops C n (fun listed' a' => (listed' = L0 ∧ ∀ j ∈ Region.ready md ops listed', n ≤ j) ∧ Lq a') l.length listed a
  | [], k, listed, a, _, hk, _, hB, h => by
    have : k = n := by simpa using hk
    subst this
    simp only [List.length_nil, lexHeadR, Bool.and_eq_true, beq_iff_eq, List.all_eq_true, decide_eq_true_eq] at hB
    exact ⟨⟨hB.1, hB.2⟩, h⟩
  | o :: l, k, listed, a, hl, hk, inv, hB, h => by
    have h0 : ops[k]? = some o := by simpa using (hl 0 (by simp)).symm
    simp only [List.length_cons, lexHeadR, Bool.and_eq_true] at hB
    obtain ⟨⟨hr, hf⟩, hB'⟩ := hB
    have hkn : k < n := by simp only [List.length_cons] at hk; omega
    have hr' : k ∈ Region.ready md ops listed := by simpa using hr
    have hst : qOp P ops C k (wpQ P ops C Lq l) a := by unfold qOp; simp only [h0]; exact h
    obtain ⟨v, hy, hK⟩ := yields_of_qOp h0 hst
    exact wpAnyL_first' h0 (Region.noSelect_spec hsel) hT hn0 hn hkn (fun listed' a' hL => hL.1.2) l.length listed a inv (Region.free_spec h0 hf) hr' hy
      (wpAnyL_lex' hsel hT hn0 hn l (k + 1) _ _ (fun j hj => by have := hl (j + 1) (by simp; omega); simpa [Nat.add_assoc, Nat.add_comm 1 j] using this) (by simp only [List.length_cons] at hk; omega) (inv.set hr' hkn) hB' hK)

/-- A region that draws its order: n operations that are quiet in the class C; then the rest, in every order. -/
theorem wp_region_qr {id : Nat} {Q : Exit → Act → World → Prop} {a : Act} {w : World} {l : List Oper} (n : Nat) (L0 : Array Bool) (C : World → Prop) (hm : P.follows .mixedOrders = true) (hB : lexRestB .any l.toArray n L0 = true)
    (hC : C { w with drawn := w.drawn + 1 })
    (h : wpQ P l.toArray C (fun a' => ∀ w', C w' → wpAny P .any l.toArray Q (l.length - n) L0 a' w') (l.take n) a) : (Code.region id l.toArray true).wp P Q a w := by
  simp only [lexRestB, Bool.and_eq_true, decide_eq_true_eq] at hB
  obtain ⟨⟨⟨⟨hsel, hn0⟩, hn⟩, hT⟩, hlex⟩ := hB
  have hn' : n ≤ l.length := by simpa using hn
  have htl : (l.take n).length = n := by simp; omega
  have inv0 : HeadInv .any l.toArray n (Array.replicate l.toArray.size false) :=
    ⟨by simp, fun j oj _ hl => (by rw [getD_replicate_false] at hl; cases hl), fun t _ ht => getD_in (by simpa using ht) (getD_replicate_false _ _)⟩
  have H := wpAnyL_lex' (P := P) (C := C) (md := .any) hsel hT hn0 hn (l.take n) 0 _ a (fun j hj => by
    have hj' : j < n := by rw [htl] at hj; exact hj
    simp [hj']) (by simpa using htl) inv0 (by rw [htl]; exact hlex) h
  refine wp_region_any hm ?_
  have := wpAny_of_head (Q' := Q) (g := l.length - n) (fun listed a' w' hw' hL => by
    obtain ⟨⟨rfl, _⟩, hL⟩ := hL
    exact hL w' hw') _ _ _ { w with drawn := w.drawn + 1 } hC H
  rw [htl] at this
  simpa [show n + (l.length - n) = l.length by omega] using this
theorem wp_region_qrb {id : Nat} {Q : Exit → Act → World → Prop} {a : Act} {w : World} {l : List Oper} (n : Nat) (L0 : Array Bool) (hm : P.follows .mixedOrders = true) (hB : lexRestB .any l.toArray n L0 = true)
    (h : ∀ C : World → Prop, Hid (∀ w', C w' → Below w.heap.size w.drew w') → Hid (∀ w1 w2, C w1 → Below w1.heap.size w1 w2 → C w2) →
      wpQ P l.toArray C (fun a' => ∀ w', Below w.heap.size w.drew w' → wpAny P .any l.toArray Q (l.length - n) L0 a' w') (l.take n) a) : (Code.region id l.toArray true).wp P Q a w :=
  wp_region_qr n L0 (fun w' => Below w.heap.size w.drew w') hm hB (Below.refl _ _) (h _ (fun _ h => h) (fun _ _ h k => h.trans (k.mono h.size)))
end C2
end Pl
end Ear
end Go.Proofs.Ytklfkfnckdeifaa
end
