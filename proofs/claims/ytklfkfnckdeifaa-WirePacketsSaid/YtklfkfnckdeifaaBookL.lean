/-
  What the law BookOrder comes to.
-/
import Derived.Test.YtklfkfnckdeifaaBookK
namespace Go.Proofs.Ytklfkfnckdeifaa
set_option linter.unusedSimpArgs false
set_option linter.unusedVariables false
open Go.RowKit
theorem lies_sub {l : List Nt} {lb : Option Addr} {w w' : World} (hL : LiesV (ntsV l) lb w) (hB : Below w.heap.size w w') (q : Nat) (hq : q < l.length) :
    LiesV (ntsV [l[q]]) (Option.map (fun x => x.add (q * 3)) lb) w' ∧ ∀ B o, Option.map (fun x => x.add (q * 3)) lb = some ⟨B, o, none⟩ → B < w.heap.size := by
  obtain ⟨B, o, rfl, hl, c0, c1, c2⟩ := nts_get q hq hL hB (Nat.le_refl _)
  have hadd : (⟨B, o, none⟩ : Addr).add (q * 3) = ⟨B, o + q * 3, none⟩ := by unfold Addr.add; by_cases h : q * 3 = 0 <;> simp [h]
  simp only [Option.map_some, hadd]
  refine ⟨fun i hi => ⟨B, o + q * 3, rfl, hl, ?_⟩, fun B' o' he => ?_⟩
  · have h3 : i < 3 := by rw [ntsV_len] at hi; simpa using hi
    rcases (by omega : i = 0 ∨ i = 1 ∨ i = 2) with rfl | rfl | rfl
    · exact c0
    · exact c1
    · exact c2
  · simp only [Option.some.injEq, Addr.mk.injEq] at he
    obtain ⟨rfl, -, -⟩ := he
    have hlen := ntsV_len l
    obtain ⟨B2, o2, he2, hB2, -⟩ := hL 0 (by omega)
    simp only [Option.some.injEq, Addr.mk.injEq] at he2
    obtain ⟨rfl, -, -⟩ := he2
    exact hB2
attribute [local irreducible] takesN takeN newErr newB
end Go.Proofs.Ytklfkfnckdeifaa
