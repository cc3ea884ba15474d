/-
  A rule for regions that draw their order: a head of operations each of which comes to one value in a class of worlds, then a tail whose order is forced. Plain, and in a fence.
-/
import Derived.StillTail
import Derived.OrdersIn
import Derived.TacticsIn
import Derived.WalkKit
namespace Go.Proofs.Ytklfkfnckdeifaa
set_option linter.unusedSimpArgs false
set_option linter.unusedVariables false
open Go.RowKit
namespace Ear

namespace Pl
variable {P : Program} {ops : Array Oper} {md : Region.Mode} {C : World → Prop}

/-- In every world of the class the operation comes to the value v, and to a world of the class. -/
def QAt (P : Program) (o : Oper) (a : Act) (C : World → Prop) (v : Value) : Prop :=
  ∀ (K : Act → World → Prop) (Q : Exit → Act → World → Prop), (∀ w', C w' → K (a.put o.dst v) w') → ∀ w, C w → o.wp P a w K Q
def wpQ (P : Program) (ops : Array Oper) (C : World → Prop) (Q : Act → Prop) : List Oper → Act → Prop
  | [], a => Q a
  | o :: rest, a => if Region.wanted o (yielded ops a.tmps) then ∃ v, QAt P o a C v ∧ wpQ P ops C Q rest (a.put o.dst v) else wpQ P ops C Q rest (a.put o.dst undef)
def qOp (P : Program) (ops : Array Oper) (C : World → Prop) (i : Nat) (K : Act → Prop) (a : Act) : Prop :=
  match ops[i]? with
  | none => K a
  | some o => if Region.wanted o (yielded ops a.tmps) then ∃ v, QAt P o a C v ∧ K (a.put o.dst v) else K (a.put o.dst undef)
def Yields (P : Program) (ops : Array Oper) (C : World → Prop) (o : Oper) (v : Value) (a : Act) : Prop :=
  (Region.wanted o (yielded ops a.tmps) = true ∧ QAt P o a C v) ∨ (Region.wanted o (yielded ops a.tmps) = false ∧ v = undef)

theorem QAt.same {o : Oper} {v : Value} {a a' : Act} (h : QAt P o a C v) (hs : a'.tmps.size = a.tmps.size) (he : execOp a'.eval o = execOp a.eval o) : QAt P o a' C v := by
  intro K Q hK w hw
  have h1 := h (fun a1 w1 => a1 = a.put o.dst v ∧ C w1) (fun _ _ _ => False) (fun w1 h1 => ⟨rfl, h1⟩) w hw
  have key : ∀ u, a.put o.dst u = a.put o.dst v → a'.put o.dst u = a'.put o.dst v := by
    intro u hu
    cases hd : o.dst with
    | none => rfl
    | some d =>
      rw [hd] at hu
      simp only [Act.put] at hu ⊢
      by_cases hlt : d < a.tmps.size
      · have := congrArg (fun x : Act => x.tmps[d]?) hu
        simp [hlt] at this
        rw [this]
      · have hge : a'.tmps.size ≤ d := by rw [hs]; exact Nat.le_of_not_lt hlt
        rw [Array.setIfInBounds_eq_of_size_le hge, Array.setIfInBounds_eq_of_size_le hge]
  unfold Oper.wp at *
  rw [he]
  generalize (execOp a.eval o).run P w = r at *
  cases r with
  | ok n w' =>
    cases n <;> simp only [Oper.upon] at h1 ⊢
    case value u => obtain ⟨e1, e2⟩ := h1; rw [key u e1]; exact hK w' e2
    case skip => obtain ⟨e1, e2⟩ := h1; rw [key undef e1]; exact hK w' e2
    case defer d =>
      obtain ⟨e1, e2⟩ := h1
      have h2 := congrArg (fun x : Act => x.defers.length) e1
      have h3 : ∀ (b : Act) (dst : Option Tmp) (u : Value), (b.put dst u).defers = b.defers := by intro b dst u; cases dst <;> rfl
      simp [h3] at h2
    case enter f args =>
      refine h1.mono fun e w'' he => ?_
      cases e with
      | returned u => show K (a'.put o.dst u) w''; rw [key u he.1]; exact hK w'' he.2
      | panicked c => exact he.elim
      | outgrown => obtain ⟨_, _, hf⟩ := he; exact hf.elim
    case row row args =>
      refine h1.mono fun u w'' he => ?_
      rw [key u he.1]; exact hK w'' he.2
  | halt x w' =>
    cases x <;> simp only [Oper.upon] at h1

theorem qOp_mono {i : Nat} {a : Act} {K K' : Act → Prop} (h : ∀ a, K a → K' a) (hh : qOp P ops C i K a) : qOp P ops C i K' a := by
  unfold qOp at *
  cases ho : ops[i]? with
  | none => simp only [ho] at hh ⊢; exact h _ hh
  | some o =>
    simp only [ho] at hh ⊢
    by_cases hw : Region.wanted o (yielded ops a.tmps) = true
    · simp only [hw, if_true] at hh ⊢
      obtain ⟨v, h1, h2⟩ := hh
      exact ⟨v, h1, h _ h2⟩
    · simp only [hw] at hh ⊢
      exact h _ hh

theorem Yields.qOp {i : Nat} {o : Oper} {v : Value} {a : Act} (hi : ops[i]? = some o) (hy : Yields P ops C o v a) {K : Act → Prop} (h : K (a.put o.dst v)) : Pl.qOp P ops C i K a := by
  unfold Pl.qOp
  simp only [hi]
  rcases hy with ⟨hw, hv⟩ | ⟨hw, rfl⟩
  · simp only [hw, if_true]; exact ⟨v, hv, h⟩
  · simp only [hw, Bool.false_eq_true, if_false]; exact h

theorem yields_of_qOp {i : Nat} {o : Oper} {a : Act} {K : Act → Prop} (hi : ops[i]? = some o) (h : qOp P ops C i K a) : ∃ v, Yields P ops C o v a ∧ K (a.put o.dst v) := by
  unfold qOp at h
  simp only [hi] at h
  by_cases hw : Region.wanted o (yielded ops a.tmps) = true
  · simp only [hw, if_true] at h
    obtain ⟨v, h1, h2⟩ := h
    exact ⟨v, .inl ⟨hw, h1⟩, h2⟩
  · simp only [hw] at h
    exact ⟨undef, .inr ⟨by simpa using hw, rfl⟩, h⟩

theorem put_size (a : Act) (dst : Option Tmp) (v : Value) : (a.put dst v).tmps.size = a.tmps.size := by
  cases dst <;> simp [Act.put]

theorem qOp_put {j : Nat} {oi oj : Oper} {v : Value} (hj : ops[j]? = some oj) (hap : oi.apart ops oj = true)
    (hsi : ∀ cs b, oi.op ≠ .select cs b) (hsj : ∀ cs b, oj.op ≠ .select cs b) {K : Act → Prop} {a : Act}
    (hy : Yields P ops C oi v a) (h : qOp P ops C j K (a.put oi.dst v)) :
    qOp P ops C j (fun a' => Yields P ops C oi v a' ∧ K (a'.put oi.dst v)) a := by
  obtain ⟨h1, h2, h3⟩ := Oper.apart_spec hap
  have keep : ∀ (a : Act), Yields P ops C oi v a → ∀ u, Yields P ops C oi v (a.put oj.dst u) := fun a hy u => by
    rcases hy with ⟨hw, hq⟩ | ⟨hw, hq⟩
    · exact .inl ⟨by rw [wanted_put oi a oj.dst u h3]; exact hw, hq.same (put_size _ _ _) (execOp_put oi hsi a oj.dst u h3)⟩
    · exact .inr ⟨by rw [wanted_put oi a oj.dst u h3]; exact hw, hq⟩
  obtain ⟨u, hu, hK⟩ := yields_of_qOp hj h
  have hu' : Yields P ops C oj u a := by
    rcases hu with ⟨hw, hq⟩ | ⟨hw, hq⟩
    · exact .inl ⟨by rw [wanted_put oj a oi.dst v h1] at hw; exact hw, hq.same (put_size _ _ _).symm (execOp_put oj hsj a oi.dst v h1).symm⟩
    · exact .inr ⟨by rw [wanted_put oj a oi.dst v h1] at hw; exact hw, hq⟩
  exact hu'.qOp hj ⟨keep a hy u, by rw [← Act.put_comm a v u h2]; exact hK⟩

/-- One operation, in a world of the class. -/
theorem wpOp_of_qOp {i : Nat} {a : Act} {K : Act → Prop} {K' : Act → World → Prop} {Q' : Exit → Act → World → Prop} {w : World} (hC : C w) (h : ∀ a w', C w' → K a → K' a w') (hh : qOp P ops C i K a) : wpOp P ops Q' i K' a w := by
  unfold wpOp
  cases hi : ops[i]? with
  | none => unfold qOp at hh; simp only [hi] at hh; exact h _ _ hC hh
  | some o =>
    unfold qOp at hh
    simp only [hi] at hh ⊢
    by_cases hw : Region.wanted o (yielded ops a.tmps) = true
    · simp only [hw, if_true] at hh ⊢
      obtain ⟨v, h1, h2⟩ := hh
      exact .inl (h1 K' Q' (fun w' hw' => h _ _ hw' h2) w hC)
    · simp only [hw] at hh ⊢
      exact h _ _ hC hh

/-- Whatever order the head is taken in. -/
def wpAnyL (P : Program) (md : Region.Mode) (ops : Array Oper) (C : World → Prop) (n : Nat) (L : Array Bool → Act → Prop) : Nat → Array Bool → Act → Prop
  | 0, listed, a => L listed a
  | f + 1, listed, a =>
    Region.ready md ops listed ≠ [] ∧ ∀ i ∈ Region.ready md ops listed, i < n ∧ qOp P ops C i (wpAnyL P md ops C n L f (listed.setIfInBounds i true)) a

theorem wpAny_of_head {n g : Nat} {L : Array Bool → Act → Prop} {Q' : Exit → Act → World → Prop} (hL : ∀ listed a w, C w → L listed a → wpAny P md ops Q' g listed a w) :
    ∀ (f : Nat) (listed : Array Bool) (a : Act) (w : World), C w → wpAnyL P md ops C n L f listed a → wpAny P md ops Q' (f + g) listed a w
  | 0, listed, a, w, hw, h => by rw [Nat.zero_add]; exact hL _ _ _ hw h
  | f + 1, listed, a, w, hw, h => by
    rw [show f + 1 + g = (f + g) + 1 by omega]
    exact ⟨fun h0 => absurd h0 h.1, fun i hi => wpOp_of_qOp hw (fun a' w' hw' h' => wpAny_of_head hL f _ a' w' hw' h') (h.2 i hi).2⟩

theorem wpAnyL_first {n i : Nat} {oi : Oper} {v : Value} {L : Array Bool → Act → Prop} (hi : ops[i]? = some oi) (hsel : ∀ (j : Nat) (o : Oper) cs b, ops[j]? = some o → o.op ≠ .select cs b)
    (hs : Region.sinkB md ops n = true) (hc : Region.chainB md ops n = true) (hn : n < ops.size) (hin : i < n)
    (hdone : ∀ listed a, L listed a → ∀ j ∈ Region.ready md ops listed, n ≤ j) :
    ∀ (f : Nat) (listed : Array Bool) (a : Act), HeadInv md ops n listed →
      (∀ j oj, ops[j]? = some oj → j ≠ i → listed.getD j true = false → (∀ e ∈ oj.after, Region.binds md e = true → e.on ≠ i) → oi.apart ops oj = true) →
      i ∈ Region.ready md ops listed → Yields P ops C oi v a →
      wpAnyL P md ops C n L f (listed.setIfInBounds i true) (a.put oi.dst v) → wpAnyL P md ops C n L (f + 1) listed a := by
  intro f
  induction f with
  | zero =>
    intro listed a inv _ hr hy H
    have hun := (mem_ready.1 hr).1
    refine ⟨fun h => (by rw [h] at hr; cases hr), fun j hj => ?_⟩
    have hjn : j < n := by
      rcases Nat.lt_or_ge j n with h | h
      · exact h
      · exact absurd hj (tail_waits hs hc hn inv _ i rfl hin hun j h)
    refine ⟨hjn, ?_⟩
    by_cases hji : j = i
    · subst hji; exact hy.qOp hi H
    · have := hdone _ _ H j (ready_mono hj hji)
      omega
  | succ f ih =>
    intro listed a inv hfree hr hy H
    have hun := (mem_ready.1 hr).1
    refine ⟨fun h => (by rw [h] at hr; cases hr), fun j hj => ?_⟩
    have hjn : j < n := by
      rcases Nat.lt_or_ge j n with h | h
      · exact h
      · exact absurd hj (tail_waits hs hc hn inv _ i rfl hin hun j h)
    refine ⟨hjn, ?_⟩
    by_cases hji : j = i
    · subst hji; exact hy.qOp hi H
    · have h1 := (H.2 j (ready_mono hj hji)).2
      obtain ⟨hjun, oj, hoj, hall⟩ := mem_ready.1 hj
      have hnot : ∀ e ∈ oj.after, Region.binds md e = true → e.on ≠ i := fun e he hb heq => by
        have h1 := hall e he hb
        rw [heq, getD_both hun] at h1
        cases h1
      have h2 := qOp_put hoj (hfree j oj hoj hji hjun hnot) (fun cs b => hsel i oi cs b hi) (fun cs b => hsel j oj cs b hoj) hy h1
      have hfree' : ∀ k ok, ops[k]? = some ok → k ≠ i → (listed.setIfInBounds j true).getD k true = false →
          (∀ e ∈ ok.after, Region.binds md e = true → e.on ≠ i) → oi.apart ops ok = true := fun k ok hk hki hun hno => by
        refine hfree k ok hk hki ?_ hno
        by_cases hjk : j = k
        · subst hjk; exact hjun
        · rw [getD_set_ne true hjk] at hun; exact hun
      refine qOp_mono (fun a' h3 => ih (listed.setIfInBounds j true) a' (inv.set hj hjn) hfree' (ready_mono hr (Ne.symm hji)) h3.1 ?_) h2
      rw [Array.setIfInBounds_comm _ _ hji]
      exact h3.2

theorem wpAnyL_lex {n g : Nat} {Lq : Act → Prop} (hsel : Region.noSelect ops = true) (hs : Region.sinkB md ops n = true) (hc : Region.chainB md ops n = true) (hn : n < ops.size) :
    ∀ (l : List Oper) (k : Nat) (listed : Array Bool) (a : Act), (∀ j, j < l.length → l[j]? = ops[k + j]?) → k + l.length = n → HeadInv md ops n listed →
    Region.lexHead md ops g l.length k listed = true → wpQ P ops C Lq l a →
    wpAnyL P md ops C n (fun listed' a' => Region.seqB md ops g n listed' = true ∧ Lq a') l.length listed a
  | [], k, listed, a, _, hk, _, hB, h => by
    have : k = n := by simpa using hk
    subst this
    exact ⟨by simpa [Region.lexHead] using hB, h⟩
  | o :: l, k, listed, a, hl, hk, inv, hB, h => by
    have h0 : ops[k]? = some o := by simpa using (hl 0 (by simp)).symm
    simp only [List.length_cons, Region.lexHead, Bool.and_eq_true] at hB
    obtain ⟨⟨hr, hf⟩, hB'⟩ := hB
    have hkn : k < n := by simp only [List.length_cons] at hk; omega
    have hr' : k ∈ Region.ready md ops listed := by simpa using hr
    have hst : qOp P ops C k (wpQ P ops C Lq l) a := by unfold qOp; simp only [h0]; exact h
    obtain ⟨v, hy, hK⟩ := yields_of_qOp h0 hst
    exact wpAnyL_first h0 (Region.noSelect_spec hsel) hs hc hn hkn (fun listed' a' hL => seqB_ready hL.1) l.length listed a inv (Region.free_spec h0 hf) hr' hy
      (wpAnyL_lex hsel hs hc hn l (k + 1) _ _ (fun j hj => by have := hl (j + 1) (by simp; omega); simpa [Nat.add_assoc, Nat.add_comm 1 j] using this) (by simp only [List.length_cons] at hk; omega) (inv.set hr' hkn) hB' hK)

/-- A region that draws its order: n operations that are quiet in the class C, then a tail in one order. -/
theorem wp_region_qt {id : Nat} {Q : Exit → Act → World → Prop} {a : Act} {w : World} {l : List Oper} (n : Nat) (C : World → Prop) (hm : P.follows .mixedOrders = true) (hB : Region.lexTailB .any l.toArray n = true)
    (hC : C { w with drawn := w.drawn + 1 })
    (h : wpQ P l.toArray C (fun a' => ∀ w', C w' → wpList P l.toArray Q (l.drop n) a' w') (l.take n) a) : (Code.region id l.toArray true).wp P Q a w := by
  simp only [Region.lexTailB, Bool.and_eq_true, decide_eq_true_eq] at hB
  obtain ⟨⟨⟨⟨hsel, hn⟩, hs⟩, hc⟩, hlex⟩ := hB
  have hn' : n < l.length := by simpa using hn
  have htl : (l.take n).length = n := by simp; omega
  have hdl : (l.drop n).length = l.toArray.size - n := by simp
  have inv0 : HeadInv .any l.toArray n (Array.replicate l.toArray.size false) :=
    ⟨by simp, fun j oj _ hl => (by rw [getD_replicate_false] at hl; cases hl), fun t _ ht => getD_in (by simpa using ht) (getD_replicate_false _ _)⟩
  have H := wpAnyL_lex (P := P) (C := C) (md := .any) (g := l.toArray.size - n) hsel hs hc hn (l.take n) 0 _ a (fun j hj => by
    have hj' : j < n := by rw [htl] at hj; exact hj
    simp [hj']) (by simpa using htl) inv0 (by rw [htl]; exact hlex) h
  refine wp_region_any hm ?_
  have := wpAny_of_head (Q' := Q) (g := l.toArray.size - n) (fun listed a' w' hw' hL => by
    have := wpAny_of_seq (md := .any) (Q' := Q) (l.drop n) n listed a' w' (fun j => by simp [List.getElem?_drop]) (by rw [hdl]; exact hL.1) (hL.2 w' hw')
    rwa [hdl] at this) _ _ _ { w with drawn := w.drawn + 1 } hC H
  rw [htl, show n + (l.toArray.size - n) = l.toArray.size by omega] at this
  exact this

/-- The same, the class: whatever lay ahead of the region lies as it lay. The class is told by two words alone. -/
theorem wp_region_qb {id : Nat} {Q : Exit → Act → World → Prop} {a : Act} {w : World} {l : List Oper} (n : Nat) (hm : P.follows .mixedOrders = true) (hB : Region.lexTailB .any l.toArray n = true)
    (h : ∀ C : World → Prop, Hid (∀ w', C w' → Below w.heap.size w.drew w') → Hid (∀ w1 w2, C w1 → Below w1.heap.size w1 w2 → C w2) →
      wpQ P l.toArray C (fun a' => ∀ w', Below w.heap.size w.drew w' → wpList P l.toArray Q (l.drop n) a' w') (l.take n) a) : (Code.region id l.toArray true).wp P Q a w :=
  wp_region_qt n (fun w' => Below w.heap.size w.drew w') hm hB (Below.refl _ _) (h _ (fun _ h => h) (fun _ _ h k => h.trans (k.mono h.size)))

/-- The same, the class: one world. -/
theorem wp_region_qs {id : Nat} {Q : Exit → Act → World → Prop} {a : Act} {w : World} {l : List Oper} (n : Nat) (hm : P.follows .mixedOrders = true) (hB : Region.lexTailB .any l.toArray n = true)
    (h : wpQ P l.toArray (fun w' => w' = w.drew) (fun a' => ∀ w', w' = w.drew → wpList P l.toArray Q (l.drop n) a' w') (l.take n) a) : (Code.region id l.toArray true).wp P Q a w :=
  wp_region_qt n (fun w' => w' = w.drew) hm hB rfl h

theorem wpQ_nil {Q : Act → Prop} {a : Act} (h : Q a) : wpQ P ops C Q [] a := h
theorem wpQ_run {Q : Act → Prop} {a : Act} {o : Oper} {rest : List Oper} (hw : Region.wanted o (yielded ops a.tmps) = true)
    (h : ∃ v, QAt P o a C v ∧ wpQ P ops C Q rest (a.put o.dst v)) : wpQ P ops C Q (o :: rest) a := by
  unfold wpQ; rw [if_pos hw]; exact h
theorem wpQ_skip {Q : Act → Prop} {a : Act} {o : Oper} {rest : List Oper} (hw : Region.wanted o (yielded ops a.tmps) = false)
    (h : wpQ P ops C Q rest (a.put o.dst undef)) : wpQ P ops C Q (o :: rest) a := by
  unfold wpQ; rw [if_neg (by simp [hw])]; exact h
end Pl

namespace Fe
variable {F : Fence} {n₁ : Nat} {P : Program} {ops : Array Oper} {md : Region.Mode} {C : World → Prop}

/-- In every world of the class the operation comes to the value v, and to a world of the class. -/
def QAt (F : Fence) (n₁ : Nat) (P : Program) (o : Oper) (a : Act) (C : World → Prop) (v : Value) : Prop :=
  ∀ (K : Act → World → Prop) (Q : Exit → Act → World → Prop), (∀ w', C w' → K (a.put o.dst v) w') → ∀ w, C w → o.wpIn F n₁ P a w K Q
def wpQ (F : Fence) (n₁ : Nat) (P : Program) (ops : Array Oper) (C : World → Prop) (Q : Act → Prop) : List Oper → Act → Prop
  | [], a => Q a
  | o :: rest, a => if Region.wanted o (yielded ops a.tmps) then ∃ v, QAt F n₁ P o a C v ∧ wpQ F n₁ P ops C Q rest (a.put o.dst v) else wpQ F n₁ P ops C Q rest (a.put o.dst undef)
def qOp (F : Fence) (n₁ : Nat) (P : Program) (ops : Array Oper) (C : World → Prop) (i : Nat) (K : Act → Prop) (a : Act) : Prop :=
  match ops[i]? with
  | none => K a
  | some o => if Region.wanted o (yielded ops a.tmps) then ∃ v, QAt F n₁ P o a C v ∧ K (a.put o.dst v) else K (a.put o.dst undef)
def Yields (F : Fence) (n₁ : Nat) (P : Program) (ops : Array Oper) (C : World → Prop) (o : Oper) (v : Value) (a : Act) : Prop :=
  (Region.wanted o (yielded ops a.tmps) = true ∧ QAt F n₁ P o a C v) ∨ (Region.wanted o (yielded ops a.tmps) = false ∧ v = undef)

theorem QAt.same {o : Oper} {v : Value} {a a' : Act} (h : QAt F n₁ P o a C v) (hs : a'.tmps.size = a.tmps.size) (hd : ∀ c, o.op ≠ .defer c) (he : execOp a'.eval o = execOp a.eval o) (hab : ∀ w, o.about P w a'.eval = o.about P w a.eval) : QAt F n₁ P o a' C v := by
  intro K Q hK w hw
  have h1 := h (fun a1 w1 => a1 = a.put o.dst v ∧ C w1) (fun _ _ _ => False) (fun w1 h1 => ⟨rfl, h1⟩) w hw
  have key : ∀ u, a.put o.dst u = a.put o.dst v → a'.put o.dst u = a'.put o.dst v := by
    intro u hu
    cases hd : o.dst with
    | none => rfl
    | some d =>
      rw [hd] at hu
      simp only [Act.put] at hu ⊢
      by_cases hlt : d < a.tmps.size
      · have := congrArg (fun x : Act => x.tmps[d]?) hu
        simp [hlt] at this
        rw [this]
      · have hge : a'.tmps.size ≤ d := by rw [hs]; exact Nat.le_of_not_lt hlt
        rw [Array.setIfInBounds_eq_of_size_le hge, Array.setIfInBounds_eq_of_size_le hge]
  unfold Oper.wpIn at *
  rw [Oper.semAt_eq _ _ _ hd] at *
  rw [he, hab]
  refine ⟨h1.1, ?_⟩
  replace h1 := h1.2
  generalize (execOp a.eval o).run P w = r at *
  cases r with
  | ok n w' =>
    cases n <;> simp only [Oper.uponIn] at h1 ⊢
    case value u => obtain ⟨e1, e2⟩ := h1; rw [key u e1]; exact hK w' e2
    case skip => obtain ⟨e1, e2⟩ := h1; rw [key undef e1]; exact hK w' e2
    case defer d =>
      obtain ⟨e1, e2⟩ := h1
      have h2 := congrArg (fun x : Act => x.defers.length) e1
      have h3 : ∀ (b : Act) (dst : Option Tmp) (u : Value), (b.put dst u).defers = b.defers := by intro b dst u; cases dst <;> rfl
      simp [h3] at h2
    case enter f args =>
      refine ⟨h1.1, ?_⟩; refine h1.2.mono fun e w'' he => ?_
      cases e with
      | returned u => show K (a'.put o.dst u) w''; rw [key u he.1]; exact hK w'' he.2
      | panicked c => exact he.elim
      | outgrown => obtain ⟨_, _, hf⟩ := he; exact hf.elim
    case row row args =>
      refine ⟨h1.1, ?_⟩; refine h1.2.mono fun u w'' he => ?_
      rw [key u he.1]; exact hK w'' he.2
    case round l f tmps assign body =>
      refine ⟨h1.1, ?_⟩; refine h1.2.mono fun e w'' he => ?_
      cases e with
      | returned u => show K (a'.put o.dst u) w''; rw [key u he.1]; exact hK w'' he.2
      | panicked c => exact he.elim
      | outgrown => obtain ⟨_, _, hf⟩ := he; exact hf.elim
  | halt x w' =>
    cases x <;> simp only [Oper.uponIn] at h1

theorem qOp_mono {i : Nat} {a : Act} {K K' : Act → Prop} (h : ∀ a, K a → K' a) (hh : qOp F n₁ P ops C i K a) : qOp F n₁ P ops C i K' a := by
  unfold qOp at *
  cases ho : ops[i]? with
  | none => simp only [ho] at hh ⊢; exact h _ hh
  | some o =>
    simp only [ho] at hh ⊢
    by_cases hw : Region.wanted o (yielded ops a.tmps) = true
    · simp only [hw, if_true] at hh ⊢
      obtain ⟨v, h1, h2⟩ := hh
      exact ⟨v, h1, h _ h2⟩
    · simp only [hw] at hh ⊢
      exact h _ hh

theorem Yields.qOp {i : Nat} {o : Oper} {v : Value} {a : Act} (hi : ops[i]? = some o) (hy : Yields F n₁ P ops C o v a) {K : Act → Prop} (h : K (a.put o.dst v)) : Fe.qOp F n₁ P ops C i K a := by
  unfold Fe.qOp
  simp only [hi]
  rcases hy with ⟨hw, hv⟩ | ⟨hw, rfl⟩
  · simp only [hw, if_true]; exact ⟨v, hv, h⟩
  · simp only [hw, Bool.false_eq_true, if_false]; exact h

theorem yields_of_qOp {i : Nat} {o : Oper} {a : Act} {K : Act → Prop} (hi : ops[i]? = some o) (h : qOp F n₁ P ops C i K a) : ∃ v, Yields F n₁ P ops C o v a ∧ K (a.put o.dst v) := by
  unfold qOp at h
  simp only [hi] at h
  by_cases hw : Region.wanted o (yielded ops a.tmps) = true
  · simp only [hw, if_true] at h
    obtain ⟨v, h1, h2⟩ := h
    exact ⟨v, .inl ⟨hw, h1⟩, h2⟩
  · simp only [hw] at h
    exact ⟨undef, .inr ⟨by simpa using hw, rfl⟩, h⟩

theorem put_size (a : Act) (dst : Option Tmp) (v : Value) : (a.put dst v).tmps.size = a.tmps.size := by
  cases dst <;> simp [Act.put]

theorem qOp_put {j : Nat} {oi oj : Oper} {v : Value} (hj : ops[j]? = some oj) (hap : oi.apart ops oj = true)
    (hsi : ∀ cs b, oi.op ≠ .select cs b) (hsj : ∀ cs b, oj.op ≠ .select cs b) (hdi : ∀ c, oi.op ≠ .defer c) (hdj : ∀ c, oj.op ≠ .defer c) {K : Act → Prop} {a : Act}
    (hy : Yields F n₁ P ops C oi v a) (h : qOp F n₁ P ops C j K (a.put oi.dst v)) :
    qOp F n₁ P ops C j (fun a' => Yields F n₁ P ops C oi v a' ∧ K (a'.put oi.dst v)) a := by
  obtain ⟨h1, h2, h3⟩ := Oper.apart_spec hap
  have keep : ∀ (a : Act), Yields F n₁ P ops C oi v a → ∀ u, Yields F n₁ P ops C oi v (a.put oj.dst u) := fun a hy u => by
    rcases hy with ⟨hw, hq⟩ | ⟨hw, hq⟩
    · exact .inl ⟨by rw [wanted_put oi a oj.dst u h3]; exact hw, hq.same (put_size _ _ _) hdi (execOp_put oi hsi a oj.dst u h3) (fun w => about_put oi w a oj.dst u h3)⟩
    · exact .inr ⟨by rw [wanted_put oi a oj.dst u h3]; exact hw, hq⟩
  obtain ⟨u, hu, hK⟩ := yields_of_qOp hj h
  have hu' : Yields F n₁ P ops C oj u a := by
    rcases hu with ⟨hw, hq⟩ | ⟨hw, hq⟩
    · exact .inl ⟨by rw [wanted_put oj a oi.dst v h1] at hw; exact hw, hq.same (put_size _ _ _).symm hdj (execOp_put oj hsj a oi.dst v h1).symm (fun w => (about_put oj w a oi.dst v h1).symm)⟩
    · exact .inr ⟨by rw [wanted_put oj a oi.dst v h1] at hw; exact hw, hq⟩
  exact hu'.qOp hj ⟨keep a hy u, by rw [← Act.put_comm a v u h2]; exact hK⟩

/-- One operation, in a world of the class. -/
theorem wpOp_of_qOp (hF : ∀ f, F.fn f) {i : Nat} {a : Act} {K : Act → Prop} {K' : Act → World → Prop} {Q' : Exit → Act → World → Prop} {w : World} (hC : C w) (h : ∀ a w', C w' → K a → K' a w') (hh : qOp F n₁ P ops C i K a) : wpOpIn F n₁ P ops Q' i K' a w := by
  unfold wpOpIn
  cases hi : ops[i]? with
  | none => unfold qOp at hh; simp only [hi] at hh; exact h _ _ hC hh
  | some o =>
    unfold qOp at hh
    simp only [hi] at hh ⊢
    by_cases hw : Region.wanted o (yielded ops a.tmps) = true
    · simp only [hw, if_true] at hh ⊢
      obtain ⟨v, h1, h2⟩ := hh
      exact (h1 K' Q' (fun w' hw' => h _ _ hw' h2) w hC)
    · simp only [hw] at hh ⊢
      refine ⟨fun f _ => hF f, ?_⟩; exact h _ _ hC hh

/-- Whatever order the head is taken in. -/
def wpAnyL (F : Fence) (n₁ : Nat) (P : Program) (md : Region.Mode) (ops : Array Oper) (C : World → Prop) (n : Nat) (L : Array Bool → Act → Prop) : Nat → Array Bool → Act → Prop
  | 0, listed, a => L listed a
  | f + 1, listed, a =>
    Region.ready md ops listed ≠ [] ∧ ∀ i ∈ Region.ready md ops listed, i < n ∧ qOp F n₁ P ops C i (wpAnyL F n₁ P md ops C n L f (listed.setIfInBounds i true)) a

theorem wpAny_of_head (hF : ∀ f, F.fn f) {n g : Nat} {L : Array Bool → Act → Prop} {Q' : Exit → Act → World → Prop} (hL : ∀ listed a w, C w → L listed a → wpAnyIn F n₁ P md ops Q' g listed a w) :
    ∀ (f : Nat) (listed : Array Bool) (a : Act) (w : World), C w → wpAnyL F n₁ P md ops C n L f listed a → wpAnyIn F n₁ P md ops Q' (f + g) listed a w
  | 0, listed, a, w, hw, h => by rw [Nat.zero_add]; exact hL _ _ _ hw h
  | f + 1, listed, a, w, hw, h => by
    rw [show f + 1 + g = (f + g) + 1 by omega]
    exact ⟨fun h0 => absurd h0 h.1, fun i hi => wpOp_of_qOp hF hw (fun a' w' hw' h' => wpAny_of_head hF hL f _ a' w' hw' h') (h.2 i hi).2⟩

theorem wpAnyL_first {n i : Nat} {oi : Oper} {v : Value} {L : Array Bool → Act → Prop} (hi : ops[i]? = some oi) (hsel : ∀ (j : Nat) (o : Oper) cs b, ops[j]? = some o → o.op ≠ .select cs b) (hdef : ∀ (j : Nat) (o : Oper) c, ops[j]? = some o → o.op ≠ .defer c)
    (hs : Region.sinkB md ops n = true) (hc : Region.chainB md ops n = true) (hn : n < ops.size) (hin : i < n)
    (hdone : ∀ listed a, L listed a → ∀ j ∈ Region.ready md ops listed, n ≤ j) :
    ∀ (f : Nat) (listed : Array Bool) (a : Act), HeadInv md ops n listed →
      (∀ j oj, ops[j]? = some oj → j ≠ i → listed.getD j true = false → (∀ e ∈ oj.after, Region.binds md e = true → e.on ≠ i) → oi.apart ops oj = true) →
      i ∈ Region.ready md ops listed → Yields F n₁ P ops C oi v a →
      wpAnyL F n₁ P md ops C n L f (listed.setIfInBounds i true) (a.put oi.dst v) → wpAnyL F n₁ P md ops C n L (f + 1) listed a := by
  intro f
  induction f with
  | zero =>
    intro listed a inv _ hr hy H
    have hun := (mem_ready.1 hr).1
    refine ⟨fun h => (by rw [h] at hr; cases hr), fun j hj => ?_⟩
    have hjn : j < n := by
      rcases Nat.lt_or_ge j n with h | h
      · exact h
      · exact absurd hj (tail_waits hs hc hn inv _ i rfl hin hun j h)
    refine ⟨hjn, ?_⟩
    by_cases hji : j = i
    · subst hji; exact hy.qOp hi H
    · have := hdone _ _ H j (ready_mono hj hji)
      omega
  | succ f ih =>
    intro listed a inv hfree hr hy H
    have hun := (mem_ready.1 hr).1
    refine ⟨fun h => (by rw [h] at hr; cases hr), fun j hj => ?_⟩
    have hjn : j < n := by
      rcases Nat.lt_or_ge j n with h | h
      · exact h
      · exact absurd hj (tail_waits hs hc hn inv _ i rfl hin hun j h)
    refine ⟨hjn, ?_⟩
    by_cases hji : j = i
    · subst hji; exact hy.qOp hi H
    · have h1 := (H.2 j (ready_mono hj hji)).2
      obtain ⟨hjun, oj, hoj, hall⟩ := mem_ready.1 hj
      have hnot : ∀ e ∈ oj.after, Region.binds md e = true → e.on ≠ i := fun e he hb heq => by
        have h1 := hall e he hb
        rw [heq, getD_both hun] at h1
        cases h1
      have h2 := qOp_put hoj (hfree j oj hoj hji hjun hnot) (fun cs b => hsel i oi cs b hi) (fun cs b => hsel j oj cs b hoj) (fun c => hdef i oi c hi) (fun c => hdef j oj c hoj) hy h1
      have hfree' : ∀ k ok, ops[k]? = some ok → k ≠ i → (listed.setIfInBounds j true).getD k true = false →
          (∀ e ∈ ok.after, Region.binds md e = true → e.on ≠ i) → oi.apart ops ok = true := fun k ok hk hki hun hno => by
        refine hfree k ok hk hki ?_ hno
        by_cases hjk : j = k
        · subst hjk; exact hjun
        · rw [getD_set_ne true hjk] at hun; exact hun
      refine qOp_mono (fun a' h3 => ih (listed.setIfInBounds j true) a' (inv.set hj hjn) hfree' (ready_mono hr (Ne.symm hji)) h3.1 ?_) h2
      rw [Array.setIfInBounds_comm _ _ hji]
      exact h3.2

theorem wpAnyL_lex {n g : Nat} {Lq : Act → Prop} (hsel : Region.noSelect ops = true) (hdef : ∀ (j : Nat) (o : Oper) c, ops[j]? = some o → o.op ≠ .defer c) (hs : Region.sinkB md ops n = true) (hc : Region.chainB md ops n = true) (hn : n < ops.size) :
    ∀ (l : List Oper) (k : Nat) (listed : Array Bool) (a : Act), (∀ j, j < l.length → l[j]? = ops[k + j]?) → k + l.length = n → HeadInv md ops n listed →
    Region.lexHead md ops g l.length k listed = true → wpQ F n₁ P ops C Lq l a →
    wpAnyL F n₁ P md ops C n (fun listed' a' => Region.seqB md ops g n listed' = true ∧ Lq a') l.length listed a
  | [], k, listed, a, _, hk, _, hB, h => by
    have : k = n := by simpa using hk
    subst this
    exact ⟨by simpa [Region.lexHead] using hB, h⟩
  | o :: l, k, listed, a, hl, hk, inv, hB, h => by
    have h0 : ops[k]? = some o := by simpa using (hl 0 (by simp)).symm
    simp only [List.length_cons, Region.lexHead, Bool.and_eq_true] at hB
    obtain ⟨⟨hr, hf⟩, hB'⟩ := hB
    have hkn : k < n := by simp only [List.length_cons] at hk; omega
    have hr' : k ∈ Region.ready md ops listed := by simpa using hr
    have hst : qOp F n₁ P ops C k (wpQ F n₁ P ops C Lq l) a := by unfold qOp; simp only [h0]; exact h
    obtain ⟨v, hy, hK⟩ := yields_of_qOp h0 hst
    exact wpAnyL_first h0 (Region.noSelect_spec hsel) hdef hs hc hn hkn (fun listed' a' hL => seqB_ready hL.1) l.length listed a inv (Region.free_spec h0 hf) hr' hy
      (wpAnyL_lex hsel hdef hs hc hn l (k + 1) _ _ (fun j hj => by have := hl (j + 1) (by simp; omega); simpa [Nat.add_assoc, Nat.add_comm 1 j] using this) (by simp only [List.length_cons] at hk; omega) (inv.set hr' hkn) hB' hK)

def noDefer (ops : Array Oper) : Bool := ops.all fun o => match o.op with | .defer _ => false | _ => true
theorem noDefer_spec {ops : Array Oper} (h : noDefer ops = true) (j : Nat) (o : Oper) (c : Call) (ho : ops[j]? = some o) : o.op ≠ .defer c := by
  intro hc
  have hm : o ∈ ops := Array.mem_of_getElem? ho
  have := (Array.all_eq_true_iff_forall_mem.1 h) o hm
  rw [hc] at this
  cases this
theorem wpAny_of_seq {Q' : Exit → Act → World → Prop} : ∀ (l : List Oper) (k : Nat) (listed : Array Bool) (a : Act) (w : World), (∀ j, l[j]? = ops[k + j]?) →
    Region.seqB md ops l.length k listed = true → wpListIn F n₁ P ops Q' l a w → wpAnyIn F n₁ P md ops Q' l.length listed a w
  | [], _, _, _, _, _, hB, h => ⟨by simpa [Region.seqB] using hB, h⟩
  | o :: l, k, listed, a, w, hl, hB, h => by
    have h0 : ops[k]? = some o := by simpa using (hl 0).symm
    simp only [List.length_cons, Region.seqB, Bool.and_eq_true, decide_eq_true_eq] at hB
    refine ⟨fun h1 => (by rw [hB.1] at h1; cases h1), fun i hi => ?_⟩
    rw [hB.1] at hi
    have hik : i = k := by simpa using hi
    subst hik
    have hw : wpOpIn F n₁ P ops Q' i (wpListIn F n₁ P ops Q' l) a w := by unfold wpOpIn; simp only [h0]; exact h
    exact wpOpIn_mono (fun a' w' h' => wpAny_of_seq l (i + 1) _ a' w' (fun j => by have := hl (j + 1); simpa [Nat.add_assoc, Nat.add_comm 1 j] using this) hB.2 h') hw

/-- A region that draws its order: n operations that are quiet in the class C, then a tail in one order. -/
theorem wp_region_qt (hF : ∀ f, F.fn f) {id : Nat} {Q : Exit → Act → World → Prop} {a : Act} {w : World} {l : List Oper} (n : Nat) (C : World → Prop) (hm : P.follows .mixedOrders = true) (hB : Region.lexTailB .any l.toArray n = true) (hnd : noDefer l.toArray = true)
    (hC : C { w with drawn := w.drawn + 1 })
    (h : wpQ F n₁ P l.toArray C (fun a' => ∀ w', C w' → wpListIn F n₁ P l.toArray Q (l.drop n) a' w') (l.take n) a) : (Code.region id l.toArray true).wpIn F n₁ P Q a w := by
  simp only [Region.lexTailB, Bool.and_eq_true, decide_eq_true_eq] at hB
  obtain ⟨⟨⟨⟨hsel, hn⟩, hs⟩, hc⟩, hlex⟩ := hB
  have hdef := noDefer_spec hnd
  have hn' : n < l.length := by simpa using hn
  have htl : (l.take n).length = n := by simp; omega
  have hdl : (l.drop n).length = l.toArray.size - n := by simp
  have inv0 : HeadInv .any l.toArray n (Array.replicate l.toArray.size false) :=
    ⟨by simp, fun j oj _ hl => (by rw [getD_replicate_false] at hl; cases hl), fun t _ ht => getD_in (by simpa using ht) (getD_replicate_false _ _)⟩
  have H := wpAnyL_lex (F := F) (n₁ := n₁) (P := P) (C := C) (md := .any) (g := l.toArray.size - n) hsel hdef hs hc hn (l.take n) 0 _ a (fun j hj => by
    have hj' : j < n := by rw [htl] at hj; exact hj
    simp [hj']) (by simpa using htl) inv0 (by rw [htl]; exact hlex) h
  refine wpIn_region_any hm ?_
  have := wpAny_of_head hF (Q' := Q) (g := l.toArray.size - n) (fun listed a' w' hw' hL => by
    have := wpAny_of_seq (md := .any) (Q' := Q) (l.drop n) n listed a' w' (fun j => by simp [List.getElem?_drop]) (by rw [hdl]; exact hL.1) (hL.2 w' hw')
    rwa [hdl] at this) _ _ _ { w with drawn := w.drawn + 1 } hC H
  rw [htl, show n + (l.toArray.size - n) = l.toArray.size by omega] at this
  exact this

/-- The same, the class: whatever lay ahead of the region lies as it lay. The class is told by two words alone. -/
theorem wp_region_qb (hF : ∀ f, F.fn f) {id : Nat} {Q : Exit → Act → World → Prop} {a : Act} {w : World} {l : List Oper} (n : Nat) (hm : P.follows .mixedOrders = true) (hB : Region.lexTailB .any l.toArray n = true) (hnd : noDefer l.toArray = true)
    (h : ∀ C : World → Prop, Hid (∀ w', C w' → Below w.heap.size w.drew w') → Hid (∀ w1 w2, C w1 → Below w1.heap.size w1 w2 → C w2) →
      wpQ F n₁ P l.toArray C (fun a' => ∀ w', Below w.heap.size w.drew w' → wpListIn F n₁ P l.toArray Q (l.drop n) a' w') (l.take n) a) : (Code.region id l.toArray true).wpIn F n₁ P Q a w :=
  wp_region_qt hF n (fun w' => Below w.heap.size w.drew w') hm hB hnd (Below.refl _ _) (h _ (fun _ h => h) (fun _ _ h k => h.trans (k.mono h.size)))

/-- The same, the class: one world. -/
theorem wp_region_qs (hF : ∀ f, F.fn f) {id : Nat} {Q : Exit → Act → World → Prop} {a : Act} {w : World} {l : List Oper} (n : Nat) (hm : P.follows .mixedOrders = true) (hB : Region.lexTailB .any l.toArray n = true) (hnd : noDefer l.toArray = true)
    (h : wpQ F n₁ P l.toArray (fun w' => w' = w.drew) (fun a' => ∀ w', w' = w.drew → wpListIn F n₁ P l.toArray Q (l.drop n) a' w') (l.take n) a) : (Code.region id l.toArray true).wpIn F n₁ P Q a w :=
  wp_region_qt hF n (fun w' => w' = w.drew) hm hB hnd rfl h

theorem wpQ_nil {Q : Act → Prop} {a : Act} (h : Q a) : wpQ F n₁ P ops C Q [] a := h
theorem wpQ_run {Q : Act → Prop} {a : Act} {o : Oper} {rest : List Oper} (hw : Region.wanted o (yielded ops a.tmps) = true)
    (h : ∃ v, QAt F n₁ P o a C v ∧ wpQ F n₁ P ops C Q rest (a.put o.dst v)) : wpQ F n₁ P ops C Q (o :: rest) a := by
  unfold wpQ; rw [if_pos hw]; exact h
theorem wpQ_skip {Q : Act → Prop} {a : Act} {o : Oper} {rest : List Oper} (hw : Region.wanted o (yielded ops a.tmps) = false)
    (h : wpQ F n₁ P ops C Q rest (a.put o.dst undef)) : wpQ F n₁ P ops C Q (o :: rest) a := by
  unfold wpQ; rw [if_neg (by simp [hw])]; exact h
end Fe

/-- From here on a world of which this is known. -/
theorem wp_world {P : Program} {c : Code} {Q : Exit → Act → World → Prop} {a : Act} {w : World} (Φ : World → Prop) (h : Φ w) (k : ∀ w', Φ w' → c.wp P Q a w') : c.wp P Q a w := k w h
theorem wpIn_world {F : Fence} {n : Nat} {P : Program} {c : Code} {Q : Exit → Act → World → Prop} {a : Act} {w : World} (Φ : World → Prop) (h : Φ w) (k : ∀ w', Φ w' → c.wpIn F n P Q a w') : c.wpIn F n P Q a w := k w h
theorem wpList_world {P : Program} {ops : Array Oper} {l : List Oper} {Q : Exit → Act → World → Prop} {a : Act} {w : World} (Φ : World → Prop) (h : Φ w) (k : ∀ w', Φ w' → wpList P ops Q l a w') : wpList P ops Q l a w := k w h

/-- A block of cells that may be written. -/
def Blk (W : World) (B : Nat) (T : TypeId) (cs : List Value) : Prop := W.heap[B]? = some (.cells cs.toArray T (0, 0))
theorem Blk.lt {W : World} {B : Nat} {T : TypeId} {cs : List Value} (h : Blk W B T cs) : B < W.heap.size := (Array.getElem?_eq_some_iff.1 h).1
theorem Blk.new (W : World) (T : TypeId) (cs : List Value) : Blk (W.alloc (.cells cs.toArray T)) W.heap.size T cs := heap_alloc_new W _
theorem Blk.alloc {W : World} {B : Nat} {T : TypeId} {cs : List Value} (h : Blk W B T cs) (o : Obj) : Blk (W.alloc o) B T cs := (Below.heap_alloc W o B h.lt).trans h
theorem Blk.drew {W : World} {B : Nat} {T : TypeId} {cs : List Value} (h : Blk W B T cs) : Blk W.drew B T cs := h
theorem Blk.below {n : Nat} {W W' : World} {B : Nat} {T : TypeId} {cs : List Value} (h : Blk W B T cs) (hb : Below n W W') (hn : B < n) : Blk W' B T cs := (hb.block B hn).trans h
theorem Blk.set {W : World} {B : Nat} {T : TypeId} {cs : List Value} (h : Blk W B T cs) (i : Nat) (v : Value) : Blk (W.setCell ⟨B, i, none⟩ v) B T (cs.set i v) := by
  have := heap_setCell_same W B i cs.toArray T v h
  simpa [Blk] using this
theorem Blk.other {W : World} {B : Nat} {T : TypeId} {cs : List Value} (h : Blk W B T cs) (a : Addr) (hne : B ≠ a.block) (v : Value) : Blk (W.setCell a v) B T cs := (heap_setCell_other W a B v hne).trans h
theorem Blk.cell {W : World} {B : Nat} {T : TypeId} {cs : List Value} (h : Blk W B T cs) (i : Nat) : W.cell? ⟨B, i, none⟩ = cs[i]? := by
  rw [cell_of_row W B i cs.toArray T (0, 0) h]; simp
theorem Blk.frozen {W : World} {B : Nat} {T : TypeId} {cs : List Value} (h : Blk W B T cs) (i : Nat) : W.frozen? ⟨B, i, none⟩ = false := frozen_of_row W B i cs.toArray T h
theorem Blk.new' {W : World} {B : Nat} {T : TypeId} {cs : List Value} (h : B = W.heap.size) : Blk (W.alloc (.cells cs.toArray T)) B T cs := by subst h; exact Blk.new W T cs
theorem Blk.set' {W : World} {B : Nat} {T : TypeId} {cs cs' : List Value} {i : Nat} {v : Value} (h : Blk W B T cs) (e : cs.set i v = cs') : Blk (W.setCell ⟨B, i, none⟩ v) B T cs' := by subst e; exact h.set i v
theorem Blk.c1 {W : World} {B : Nat} {T : TypeId} {x : Value} (h : Blk W B T [x]) : W.cell? ⟨B, 0, none⟩ = some x ∧ W.frozen? ⟨B, 0, none⟩ = false := ⟨h.cell 0, h.frozen 0⟩
theorem Blk.c4 {W : World} {B : Nat} {T : TypeId} {x0 x1 x2 x3 : Value} (h : Blk W B T [x0, x1, x2, x3]) :
    W.cell? ⟨B, 0, none⟩ = some x0 ∧ W.cell? ⟨B, 1, none⟩ = some x1 ∧ W.cell? ⟨B, 2, none⟩ = some x2 ∧ W.cell? ⟨B, 3, none⟩ = some x3 ∧ W.frozen? ⟨B, 0, none⟩ = false ∧ W.frozen? ⟨B, 1, none⟩ = false ∧ W.frozen? ⟨B, 2, none⟩ = false ∧ W.frozen? ⟨B, 3, none⟩ = false :=
  ⟨h.cell 0, h.cell 1, h.cell 2, h.cell 3, h.frozen 0, h.frozen 1, h.frozen 2, h.frozen 3⟩

theorem bcell {n : Nat} {W w1 : World} (hb : Below n W w1) : (∀ b o, b < n → w1.cell? ⟨b, o, none⟩ = W.cell? ⟨b, o, none⟩) ∧ (∀ b o, b < n → w1.frozen? ⟨b, o, none⟩ = W.frozen? ⟨b, o, none⟩) :=
  ⟨fun b o h => hb.cell (p := ⟨b, o, none⟩) h, fun b o h => hb.frozen (p := ⟨b, o, none⟩) h⟩
end Ear
end Go.Proofs.Ytklfkfnckdeifaa
