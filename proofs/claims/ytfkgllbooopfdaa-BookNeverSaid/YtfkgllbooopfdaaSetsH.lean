/-
  What the calls of package idset come to: the set of a list.
-/
import Derived.Test.YtfkgllbooopfdaaSetsG
import Derived.WalkKit
import Derived.LoopTactic
import Derived.WalkSpells
import Derived.WalkLawsBesides
import Derived.Handy
import Derived.Lib.Hide
namespace Go.Proofs.Ytfkgllbooopfdaa
set_option linter.unusedSimpArgs false
set_option linter.unusedVariables false
open Go.RowKit
attribute [local go_sem] eqSet
def ofL (l : List Int) : BitVec 128 := l.foldl (fun s x => Ear.clean s ||| Ear.one x.toNat) 0#128
def okL (l : List Int) : Prop := ∀ x ∈ l, 0 ≤ x ∧ x < 100
theorem ofL_snoc (l : List Int) (i : Nat) : ofL (l ++ [(i : Int)]) = Ear.clean (ofL l) ||| Ear.one i := by
  unfold ofL; rw [List.foldl_append]; rfl
theorem take_snocI (l : List Int) (k : Nat) (h : k < l.length) : l.take (k + 1) = l.take k ++ [l[k]] := List.take_succ_eq_append_getElem h
/-- Where a list of ints lies. -/
def Lies (l : List Int) (base : Option Addr) (w : World) : Prop := ∀ i, (h : i < l.length) → ∃ B o, base = some ⟨B, o, none⟩ ∧ B < w.heap.size ∧ w.cell? ⟨B, o + i, none⟩ = some (.int .i64 l[i])
theorem Lies.below {l : List Int} {base : Option Addr} {n : Nat} {w w' : World} (h : Lies l base w) (hb : Below n w w') (hn : ∀ i, i < l.length → ∀ B o, base = some ⟨B, o, none⟩ → B < n) : Lies l base w' := by
  intro i hi
  obtain ⟨B, o, e, hB, hc⟩ := h i hi
  exact ⟨B, o, e, by have := hb.size; omega, by rw [(hb.cell (p := ⟨B, o + i, none⟩) (hn i hi B o e))]; exact hc⟩
theorem Lies.read {l : List Int} {base : Option Addr} {w w' : World} (h : Lies l base w) (hb : Below w.heap.size w w') (k : Nat) (hk : k < l.length) (x : Int) (hx : l[k] = x) :
    ∃ B o, base = some ⟨B, o, none⟩ ∧ B < w.heap.size ∧ w'.cell? ⟨B, o + k, none⟩ = some (.int .i64 x) := by
  obtain ⟨B, o, e, hB, hc⟩ := h k hk
  exact ⟨B, o, e, hB, by rw [(hb.cell (p := ⟨B, o + k, none⟩) hB), hc, hx]⟩

/-- At a call's end: from here on a world of which this is known. -/
theorem bp_world {P : Program} {f : Func} {Q : Ending → World → Prop} {x : Exit} {a : Act} {w : World} (Φ : World → Prop) (h : Φ w) (k : ∀ w', Φ w' → bodyPost P f Q x a w') : bodyPost P f Q x a w := k w h

def ofPost (l : List Int) (w : World) (e : Ending) (w' : World) : Prop :=
  ((okL l ∧ e = .returned (.tuple #[.agg #[.int .u32 (Ear.wd (ofL l) 0), .int .u32 (Ear.wd (ofL l) 1), .int .u32 (Ear.wd (ofL l) 2), .int .u32 (Ear.wd (ofL l) 3)], .int .i64 0])) ∨ (¬ okL l ∧ e = .returned (.tuple #[.agg #[.int .u32 (Ear.wd (0#128) 0), .int .u32 (Ear.wd (0#128) 1), .int .u32 (Ear.wd (0#128) 2), .int .u32 (Ear.wd (0#128) 3)], .int .i64 30]))) ∧ Below w.heap.size w w'
theorem wrap_succ (k n : Nat) (h : k < n) (hn : n ≤ 5000) : wrap64 ((k : Int) + 1) = ((k + 1 : Nat) : Int) := by simp only [wrap64]; omega

end Go.Proofs.Ytfkgllbooopfdaa
