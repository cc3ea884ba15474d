/-
  What the law BookTwice comes to.
  What the law BookTwice comes to: what is taken twice.
  Books that hear each other's lists, as data; notice.Max; Merge whatever it is handed.
-/
import Derived.Test.YtklfkfnckdeifaaBookL
import Derived.Test.YtklfkfnckdeifaaBookQ
section
namespace Go.Proofs.Ytklfkfnckdeifaa
set_option linter.unusedSimpArgs false
set_option linter.unusedVariables false
open Go.RowKit
attribute [local irreducible] takesN takeN newErr newB mergeOk takeB
theorem arg_ne {l : List Nt} {lb : Option Addr} {w : World} {g : Nat} (hL : LiesV (ntsV l) lb w) (hg : w.heap.size ≤ g) : 0 < l.length → ∀ B o, lb = some ⟨B, o, none⟩ → B ≠ g := by
  intro hp B o he e
  have hlen := ntsV_len l
  obtain ⟨B2, o2, he2, hB2, -⟩ := hL 0 (by omega)
  rw [he] at he2
  simp only [Option.some.injEq, Addr.mk.injEq] at he2
  obtain ⟨rfl, -, -⟩ := he2
  omega
end Go.Proofs.Ytklfkfnckdeifaa
end
section
namespace Go.Proofs.Ytklfkfnckdeifaa
set_option linter.unusedSimpArgs false
set_option linter.unusedVariables false
open Go.RowKit
theorem eqSet00 (W : World) : Sem.run Try.prog (Op.equalIn 10000 30 (.agg #[.int .u32 0, .int .u32 0, .int .u32 0, .int .u32 0]) (.agg #[.int .u32 0, .int .u32 0, .int .u32 0, .int .u32 0])) W = .ok true W := by kernel_rfl
attribute [local go_sem] eqSet00
attribute [local irreducible] takesN takeN newErr newB mergeOk takeB
end Go.Proofs.Ytklfkfnckdeifaa
end
section
namespace Go.Proofs.Ytklfkfnckdeifaa
set_option linter.unusedSimpArgs false
set_option linter.unusedVariables false
open Go.RowKit
def maxN (a b : Nt) : Nt := if beatsN b a = true then b else a
theorem join_get {L M : List Nt} (hL : BookOk L) (hM : BookOk M) (h : L.length = M.length) (i : Nat) (hi : i < L.length) :
    (takesN L M)[i]'(by rw [takesN_len]; exact hi) = maxN L[i] (M[i]'(h ▸ hi)) := by
  obtain ⟨c1, c2, c3⟩ := takesN_char hL M i hi
  have hi2 : i < (takesN L M).length := by rw [takesN_len]; exact hi
  have hiM : i < M.length := h ▸ hi
  obtain ⟨o1, r1⟩ := (takesN_ok hL M).each i hi2
  obtain ⟨o2, r2⟩ := hL.each i hi
  obtain ⟨o3, r3⟩ := hM.each i hiM
  have hv : validN L.length M[i] = true := valid_of hL.pos hL.most (by omega) (by omega) r3
  have hm := c3 _ (List.getElem_mem hiM) hv o3
  have c1' : (takesN L M)[i] = L[i] ∨ (takesN L M)[i] = M[i] := by
    rcases c1 with c1 | c1
    · exact .inl c1
    · obtain ⟨j, hj, he⟩ := List.getElem_of_mem c1
      have := (hM.each j hj).1
      have hij : j = i := by rw [he] at this; omega
      subst hij
      exact .inr he.symm
  unfold maxN
  by_cases hb : beatsN (M[i]'hiM) L[i] = true
  · rw [if_pos hb]
    rcases c1' with c1' | c1'
    · exfalso
      unfold beatsN at hb
      simp only [Bool.and_eq_true, decide_eq_true_eq] at hb
      rw [c1'] at hm
      omega
    · exact c1'
  · rw [if_neg hb]
    have hb' : ¬ rankN L[i] < rankN (M[i]'hiM) := by
      intro hlt
      apply hb
      unfold beatsN
      simp only [Bool.and_eq_true, decide_eq_true_eq]
      exact ⟨⟨by omega, r2⟩, hlt⟩
    rcases c1' with c1' | c1'
    · exact c1'
    · rw [c1'] at c2 ⊢
      exact rank_inj r3 (by omega) (by omega)
theorem max_comm {a b : Nt} (ha : 0 ≤ rankN a) (hb : 0 ≤ rankN b) (ho : a.of_ = b.of_) : maxN a b = maxN b a := by
  have e1 : beatsN b a = decide (rankN a < rankN b) := by unfold beatsN; rw [decide_eq_true ho.symm, decide_eq_true ha]; rfl
  have e2 : beatsN a b = decide (rankN b < rankN a) := by unfold beatsN; rw [decide_eq_true ho, decide_eq_true hb]; rfl
  unfold maxN
  rw [e1, e2]
  by_cases h1 : rankN a < rankN b
  · have h2 : ¬ rankN b < rankN a := by omega
    simp [h1, h2]
  · by_cases h2 : rankN b < rankN a
    · simp [h1, h2]
    · simp [h1, h2]; exact rank_inj ha ho (by omega)
theorem join_same {L M : List Nt} (hL : BookOk L) (hM : BookOk M) (h : L.length = M.length) : takesN L M = takesN M L := by
  apply List.ext_getElem
  · rw [takesN_len, takesN_len, h]
  · intro i h1 h2
    have hi : i < L.length := by rw [takesN_len] at h1; exact h1
    have hi' : i < M.length := h ▸ hi
    rw [join_get hL hM h i hi, join_get hM hL h.symm i hi']
    exact max_comm (hL.each i hi).2 (hM.each i hi').2 ((hL.each i hi).1.trans (hM.each i hi').1.symm)
def mergeS (L l : List Nt) : BitVec 128 := if mergeOk L.length l = true then chg L l 0#128 else 0#128
def mergeE (L l : List Nt) : Int := if mergeOk L.length l = true then 0 else 50
theorem mergeN_len (L l : List Nt) : (mergeN L l).length = L.length := by unfold mergeN; split; exact takesN_len _ _; rfl
theorem mergeN_ok {L : List Nt} (hL : BookOk L) (l : List Nt) : BookOk (mergeN L l) := by unfold mergeN; split; exact takesN_ok hL l; exact hL
theorem cells_at {L : List Nt} {g : Nat} {x : Nt} {w w' : World} {n : Nat} (k : Nat) (hk : k < L.length) (hL : LiesV (ntsV L) (some ⟨g, 0, none⟩) w) (hB : Below n w w') (hn : w.heap.size ≤ n) (hx : L[k] = x) :
    g < w'.heap.size ∧ w'.cell? ⟨g, k * 3, none⟩ = some (.int .i64 x.of_) ∧ w'.cell? ⟨g, k * 3 + 1, none⟩ = some (.int .i64 x.tag) ∧ w'.cell? ⟨g, k * 3 + 2, none⟩ = some (.int .i64 x.kind) := by
  obtain ⟨B, o, he, hl, a0, a1, a2⟩ := nts_get k hk hL hB hn
  simp only [Option.some.injEq, Addr.mk.injEq] at he
  obtain ⟨rfl, rfl, -⟩ := he
  rw [hx] at a0 a1 a2
  simp only [Nat.zero_add] at a0 a1 a2
  exact ⟨hl, a0, a1, a2⟩
theorem Has_is {v : BitVec 128} {i : Int} {b : Bool} (h : hasV v i = b) (w : World) : Calls Try.prog 75 #[.agg #[.int .u32 (Ear.wd (v) 0), .int .u32 (Ear.wd (v) 1), .int .u32 (Ear.wd (v) 2), .int .u32 (Ear.wd (v) 3)], .int .i64 i] w fun e w' => e = .returned (.bool b) ∧ Below w.heap.size w w' := by subst h; exact Has_val v i w
theorem LiesV.keep {xs : List Value} {g : Nat} {S : Nat → Prop} {w w' : World} (h : LiesV xs (some ⟨g, 0, none⟩) w) (hk : Ear.Keep S w w') (hn : ¬ S g) : LiesV xs (some ⟨g, 0, none⟩) w' := by
  intro i hi
  obtain ⟨B, o, he, hB, hc⟩ := h i hi
  simp only [Option.some.injEq, Addr.mk.injEq] at he
  obtain ⟨rfl, rfl, -⟩ := he
  exact ⟨g, 0, rfl, Nat.lt_of_lt_of_le hB hk.size, (World.cell?_of_block (hk.block g hB hn)).trans hc⟩
theorem LiesV.keepA {xs : List Value} {base : Option Addr} {S : Nat → Prop} {w w' : World} (h : LiesV xs base w) (hk : Ear.Keep S w w') (hn : ∀ k, S k → w.heap.size ≤ k ∨ ∀ o, base ≠ some ⟨k, o, none⟩) : LiesV xs base w' := by
  intro i hi
  obtain ⟨B, o, he, hB, hc⟩ := h i hi
  refine ⟨B, o, he, Nat.lt_of_lt_of_le hB hk.size, (World.cell?_of_block (hk.block B hB ?_)).trans hc⟩
  intro hS
  rcases hn B hS with h1 | h1
  · omega
  · exact h1 o he
end Go.Proofs.Ytklfkfnckdeifaa
end
