/-
  What is known of a world at a cut: a list of blocks and their cells, and that whatever lay ahead of the call lies as it lay.
  What Union, Meet, Less of the document's answer come to.
  Slices of ints that lie in memory: how they are read, held against each other, grown.
-/
import Derived.Test.YtklfkfnckdeifaaRef
import Derived.WalkKit
import Derived.Handy
import Derived.LoopTactic
import Derived.WalkSpells
import Derived.WalkLawsBesides
import Derived.Lib.Hide
import Derived.Deep.Cut
import Derived.Laws.AppendOwn
section
namespace Go.Proofs.Ytklfkfnckdeifaa
set_option linter.unusedSimpArgs false
set_option linter.unusedVariables false
open Go.RowKit
namespace Ear

/-- Each block of the list has its cells; below n all is as in w0. -/
def Sh (n : Nat) (w0 : World) : List (Nat × TypeId × List Value) → World → Prop
  | [], W => Below n w0 W
  | (B, T, cs) :: L, W => Blk W B T cs ∧ Sh n w0 L W
theorem Sh.nil {n : Nat} {w0 W : World} (h : Below n w0 W) : Sh n w0 [] W := h
theorem Sh.cons {n : Nat} {w0 W : World} {B : Nat} {T : TypeId} {cs : List Value} {L : List (Nat × TypeId × List Value)} (h : Blk W B T cs) (k : Sh n w0 L W) : Sh n w0 ((B, T, cs) :: L) W := ⟨h, k⟩
/-- Both are known. -/
def AndW (A B : World → Prop) (W : World) : Prop := A W ∧ B W
theorem bp_world {P : Program} {f : Func} {Q : Ending → World → Prop} {x : Exit} {a : Act} {w : World} (Φ : World → Prop) (h : Φ w) (k : ∀ w', Φ w' → bodyPost P f Q x a w') : bodyPost P f Q x a w := k w h
theorem Blk.setC {W : World} {B : Nat} {T : TypeId} {cs : List Value} {i : Nat} {v : Value} (h : Blk W B T cs) : Blk (W.setCell ⟨B, i, none⟩ v) B T (cs.set i v) := h.set i v
theorem Blk.setC' {W : World} {B B' : Nat} {T : TypeId} {cs : List Value} {i : Nat} {v : Value} (h : Blk W B T cs) (e : B' = B) : Blk (W.setCell ⟨B', i, none⟩ v) B T (cs.set i v) := by subst e; exact h.set i v
theorem Blk.rowC {W : World} {B g T : Nat} {cs cs' : List Value} (h : Blk W B T cs) (e : g = B) : Blk (W.setRow g cs'.toArray) B T cs' := Blk.setRow' h e
theorem Blk.renew {W : World} {B T : Nat} {cs cs' : List Value} (h : Blk W B T cs) (e : cs = cs') : Blk W B T cs' := e ▸ h
end Ear
end Go.Proofs.Ytklfkfnckdeifaa
end
section
namespace Go.Proofs.Ytklfkfnckdeifaa
set_option linter.unusedSimpArgs false
set_option linter.unusedVariables false
open Go.RowKit
attribute [local go_sem] rowL_len
attribute [local irreducible] Ear.wd Ear.one Ear.clean
theorem mix_get {f g : Nat → Bool} {k : Nat} (h : k < 100) : (rowL fun j => if j < k then g j else f j)[k]? = some (.bool (f k)) := by
  rw [rowL_get _ _ h]; simp
theorem mix_set {f g : Nat → Bool} {k : Nat} {b : Bool} (h : g k = b) : (rowL fun j => if j < k then g j else f j).set k (.bool b) = rowL fun j => if j < k + 1 then g j else f j := by
  apply rowL_set
  intro i _
  by_cases hi : i = k
  · subst hi; simp [h]
  · by_cases hl : i < k
    · have : i < k + 1 := by omega
      simp [hi, hl, this]
    · have : ¬ i < k + 1 := by omega
      simp [hi, hl, this]
theorem mix_zero (f g : Nat → Bool) : (rowL fun j => if j < 0 then g j else f j) = rowL f := rowL_congr (fun i _ => by simp)
theorem mix_all (f g : Nat → Bool) : (rowL fun j => if j < 100 then g j else f j) = rowL g := rowL_congr (fun i h => by simp [h])

end Go.Proofs.Ytklfkfnckdeifaa
end
section
namespace Go.Proofs.Ytklfkfnckdeifaa
set_option linter.unusedSimpArgs false
set_option linter.unusedVariables false
open Go.RowKit

attribute [local go_sem] rowL_len storeNew
attribute [local irreducible] Ear.wd Ear.one Ear.clean
/-- A slice's cells, to be read. -/
def LiesV (xs : List Value) (base : Option Addr) (w : World) : Prop := ∀ i, i < xs.length → ∃ B o, base = some ⟨B, o, none⟩ ∧ B < w.heap.size ∧ w.cell? ⟨B, o + i, none⟩ = xs[i]?
theorem LiesV.below {xs : List Value} {base : Option Addr} {w w' : World} (h : LiesV xs base w) (hb : Below w.heap.size w w') : LiesV xs base w' := by
  intro i hi
  obtain ⟨B, o, e, hB, hc⟩ := h i hi
  exact ⟨B, o, e, Nat.lt_of_lt_of_le hB hb.size, by rw [hb.cell (p := ⟨B, o + i, none⟩) hB]; exact hc⟩
theorem LiesV.nil (base : Option Addr) (w : World) : LiesV [] base w := fun i hi => by simp at hi
def intsV (l : List Int) : List Value := l.map (Value.int .i64)
theorem intsV_len (l : List Int) : (intsV l).length = l.length := by simp [intsV]
theorem intsV_get {l : List Int} {i : Nat} (h : i < l.length) : (intsV l)[i]? = some (.int .i64 l[i]) := by simp [intsV, h]
theorem intsV_snoc (l : List Int) (x : Int) : intsV (l ++ [x]) = intsV l ++ [.int .i64 x] := by simp [intsV]
theorem LiesV.lies {l : List Int} {base : Option Addr} {w : World} (h : LiesV (intsV l) base w) : Lies l base w := by
  intro i hi
  obtain ⟨B, o, e, hB, hc⟩ := h i (by rw [intsV_len]; exact hi)
  exact ⟨B, o, e, hB, by rw [hc, intsV_get hi]⟩
theorem Lies.liesV {l : List Int} {base : Option Addr} {w : World} (h : Lies l base w) : LiesV (intsV l) base w := by
  intro i hi
  rw [intsV_len] at hi
  obtain ⟨B, o, e, hB, hc⟩ := h i hi
  exact ⟨B, o, e, hB, by rw [hc, intsV_get hi]⟩
theorem Lies.keep {l : List Int} {base : Option Addr} {w w' : World} (h : Lies l base w) (hb : Below w.heap.size w w') : Lies l base w' := (h.liesV.below hb).lies
theorem owns_lies {w : World} {b e n cap : Nat} {base : Option Addr} {xs : List Value} (h : w.ownsRow b e 1 (.slice base n cap) n xs) : LiesV xs base w := by
  intro i hi
  obtain ⟨hl, ⟨hv, hn⟩ | ⟨g, cap', cur, hv, hb, hc, h1, h2, h3, h4⟩⟩ := h
  · omega
  · simp only [Value.slice.injEq] at hv
    obtain ⟨rfl, -, rfl⟩ := hv
    refine ⟨g, 0, rfl, (Array.getElem?_eq_some_iff.1 hc).1, ?_⟩
    rw [cell_of_row w g (0 + i) cur e (0, 0) hc, ← h4]
    simp only [Nat.zero_add, Nat.mul_one] at hl ⊢
    rw [List.getElem?_take]
    simp; omega
theorem owns_len {w : World} {b e n : Nat} {v : Value} {xs : List Value} (h : w.ownsRow b e 1 v n xs) : xs.length = n := by have := h.1; omega
theorem owns_base {w : World} {b b' e s n : Nat} {v : Value} {xs : List Value} (h : w.ownsRow b e s v n xs) (hb : b' ≤ b) : w.ownsRow b' e s v n xs := by
  obtain ⟨hl, h | ⟨g, cap', cur, hv, hb1, hc⟩⟩ := h
  · exact ⟨hl, .inl h⟩
  · exact ⟨hl, .inr ⟨g, cap', cur, hv, by omega, hc⟩⟩
theorem owns_slice {w : World} {b e s n : Nat} {v : Value} {xs : List Value} (h : w.ownsRow b e s v n xs) : ∃ base cap, v = .slice base n cap := by
  obtain ⟨hl, ⟨hv, hn⟩ | ⟨g, cap', cur, hv, hb1, hc⟩⟩ := h
  · exact ⟨none, 0, by rw [hv, hn]⟩
  · exact ⟨_, _, hv⟩
theorem owns_below {w w' : World} {b e s n : Nat} {v : Value} {xs : List Value} (h : w.ownsRow b e s v n xs) (hb : Below w.heap.size w w') : w'.ownsRow b e s v n xs := by
  obtain ⟨hl, h | ⟨g, cap', cur, hv, hb1, hc, hr⟩⟩ := h
  · exact ⟨hl, .inl h⟩
  · exact ⟨hl, .inr ⟨g, cap', cur, hv, hb1, (hb.block g (Array.getElem?_eq_some_iff.1 hc).1).trans hc, hr⟩⟩
theorem owns_set {w : World} {b e s n g i : Nat} {u v : Value} {xs : List Value} (h : w.ownsRow b e s v n xs) (hg : g < b) : (w.setCell ⟨g, i, none⟩ u).ownsRow b e s v n xs := by
  obtain ⟨hl, h | ⟨g', cap', cur, hv, hb1, hc, hr⟩⟩ := h
  · exact ⟨hl, .inl h⟩
  · exact ⟨hl, .inr ⟨g', cap', cur, hv, hb1, (heap_setCell_other w _ g' u (by show g' ≠ g; omega)).trans hc, hr⟩⟩
namespace Ear
theorem Blk.grown {W W' : World} {B T : Nat} {cs : List Value} {row : Option Nat} (h : Blk W B T cs) (hg : W.grownBy W' row) (hn : some B ≠ row) : Blk W' B T cs := (hg.block B h.lt hn).trans h
theorem own_ne {w : World} {b e s n : Nat} {v : Value} {xs : List Value} (h : w.ownsRow b e s v n xs) {B : Nat} (hB : B < b) : some B ≠ v.ownBlock := fun he => by
  have := (h.lt B he.symm).1; omega
end Ear
theorem info_int : (Try.prog.info? 3).map (fun i => (i.zero, i.size, i.bytes)) = some (some (.int .i64 0), 1, 8) := by kernel_rfl

/-- Two lists, held against each other. -/
def sameTo (l m : List Int) (k : Nat) : Prop := ∀ i, i < k → l[i]? = m[i]?
/-- The ids of a set below k. -/
def idsTo (v : BitVec 128) (k : Nat) : List Int := ((List.range k).filter v.getLsbD).map fun i : Nat => (i : Int)
def ids (v : BitVec 128) : List Int := idsTo v 100
theorem idsTo_succ (v : BitVec 128) (k : Nat) : idsTo v (k + 1) = if v.getLsbD k then idsTo v k ++ [(k : Int)] else idsTo v k := by
  unfold idsTo
  rw [List.range_succ, List.filter_append, List.map_append]
  cases h : v.getLsbD k <;> simp [h]
theorem idsTo_len (v : BitVec 128) (k : Nat) : (idsTo v k).length ≤ k := by
  unfold idsTo
  rw [List.length_map]
  have := List.length_filter_le v.getLsbD (List.range k)
  rw [List.length_range] at this
  exact this

def idsPost (v : BitVec 128) (w : World) (e : Ending) (w' : World) : Prop :=
  ∃ base cap, e = .returned (.slice base (ids v).length cap) ∧ w'.ownsRow w.heap.size 3 1 (.slice base (ids v).length cap) (ids v).length (intsV (ids v)) ∧ Below w.heap.size w w'
def idsRel (v : BitVec 128) (w : World) (n1 B : Nat) (vl i : Value) (wr : World) : Prop :=
  ∃ k : Nat, k ≤ 100 ∧ i = .int .i64 k ∧ wr.ownsRow n1 3 1 vl (idsTo v k).length (intsV (idsTo v k)) ∧ Ear.Blk wr B 98 (rowL v.getLsbD) ∧ n1 ≤ wr.heap.size ∧ Below w.heap.size w wr
end Go.Proofs.Ytklfkfnckdeifaa
end
