/-
  What the law BookOrder comes to.
-/
import Derived.Test.YtfnolmlmmimehaaBookK
namespace Go.Proofs.Ytfnolmlmmimehaa
set_option linter.unusedSimpArgs false
set_option linter.unusedVariables false
open Go.RowKit
theorem New_L {n self tag : Int} {L0 : List Nt} {w0 W : World} {bs : List Bk} (h : Books w0 W bs) (hn : newErr n self tag = 0) (hL : newB n self tag = L0) :
    Calls Try.prog 30 #[.int .i64 n, .int .i64 self, .int .i64 tag] W fun e W' =>
      ∃ B g cap, e = .returned (.tuple #[.pointer (some ⟨B, 0, none⟩), .int .i64 0]) ∧ Books w0 W' (bs ++ [⟨B, g, cap, L0⟩]) := by
  subst hL
  refine (New_bk h hn).mono ?_
  rintro e W' ⟨⟨B, g, cap, L⟩, he, rfl, hB⟩
  exact ⟨B, g, cap, he, hB⟩
theorem Take_at {w0 W : World} {bs : List Bk} (i : Nat) {B g cap : Nat} {L : List Nt} {x : Nt} (h : Books w0 W bs) (hi : bs[i]? = some ⟨B, g, cap, L⟩) :
    Calls Try.prog 31 #[.pointer (some ⟨B, 0, none⟩), .agg #[.int .i64 (x).of_, .int .i64 (x).tag, .int .i64 (x).kind]] W fun e W' => (∃ v, e = .returned v) ∧ Books w0 W' (bs.set i ⟨B, g, cap, takeN L x⟩) := by
  refine (Take_bk x h hi).mono ?_
  rintro e W' ⟨he, hB, -⟩
  exact ⟨⟨_, he⟩, hB⟩
theorem lies_sub {l : List Nt} {lb : Option Addr} {w w' : World} (hL : LiesV (ntsV l) lb w) (hB : Below w.heap.size w w') (q : Nat) (hq : q < l.length) :
    LiesV (ntsV [l[q]]) (Option.map (fun x => x.add (q * 3)) lb) w' ∧ ∀ B o, Option.map (fun x => x.add (q * 3)) lb = some ⟨B, o, none⟩ → B < w.heap.size := by
  obtain ⟨B, o, rfl, hl, c0, c1, c2⟩ := nts_get q hq hL hB (Nat.le_refl _)
  have hadd : (⟨B, o, none⟩ : Addr).add (q * 3) = ⟨B, o + q * 3, none⟩ := by unfold Addr.add; by_cases h : q * 3 = 0 <;> simp [h]
  simp only [Option.map_some, hadd]
  refine ⟨fun i hi => ⟨B, o + q * 3, rfl, hl, ?_⟩, fun B' o' he => ?_⟩
  · have h3 : i < 3 := by rw [ntsV_len] at hi; simpa using hi
    rcases (by omega : i = 0 ∨ i = 1 ∨ i = 2) with rfl | rfl | rfl
    · exact c0
    · exact c1
    · exact c2
  · simp only [Option.some.injEq, Addr.mk.injEq] at he
    obtain ⟨rfl, -, -⟩ := he
    have hlen := ntsV_len l
    obtain ⟨B2, o2, he2, hB2, -⟩ := hL 0 (by omega)
    simp only [Option.some.injEq, Addr.mk.injEq] at he2
    obtain ⟨rfl, -, -⟩ := he2
    exact hB2
theorem Merge_at {w0 w : World} {bs : List Bk} (i : Nat) {B g cap : Nat} {L : List Nt} {x : Nt} {base : Option Addr} {c : Nat} (h : Books w0 w bs) (hi : bs[i]? = some ⟨B, g, cap, L⟩) (hl : LiesV (ntsV [x]) base w) (hne : ∀ B o, base = some ⟨B, o, none⟩ → B ≠ g) :
    Calls Try.prog 34 #[.pointer (some ⟨B, 0, none⟩), .slice base 1 c] w fun e w' => (∃ v, e = .returned v) ∧ Books w0 w' (bs.set i ⟨B, g, cap, takeN L x⟩) := by
  have := Merge_x (b := ⟨B, g, cap, L⟩) x base c h hi hl hne
  exact this
attribute [local irreducible] takesN takeN newErr newB
theorem New_any {n self tag : Int} (h : newErr n self tag = 0) (w : World) : Calls Try.prog 30 #[.int .i64 n, .int .i64 self, .int .i64 tag] w fun e w' => ∃ B, e = .returned (.tuple #[.pointer (some ⟨B, 0, none⟩), .int .i64 0]) ∧ Below w.heap.size w w' := by
  refine (BNew_calls n self tag w).mono ?_
  rintro e W' ⟨hb, -, hg⟩
  obtain ⟨B, g, cap, he, -, -⟩ := hg h
  exact ⟨B, he, hb⟩
end Go.Proofs.Ytfnolmlmmimehaa
