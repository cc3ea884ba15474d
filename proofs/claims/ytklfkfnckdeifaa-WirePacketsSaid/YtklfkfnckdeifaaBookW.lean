/-
  All of a book: what is gone through.
-/
import Derived.Test.YtklfkfnckdeifaaBookU
import Derived.Test.YtklfkfnckdeifaaBox
namespace Go.Proofs.Ytklfkfnckdeifaa
set_option linter.unusedSimpArgs false
set_option linter.unusedVariables false
open Go.RowKit
attribute [local irreducible] Ear.Pl.wpQ Ear.Pa.wpQ Ear.Fe.wpQ Ear.Fa.wpQ
/-- A block and a row lie as they lay. -/
def Kp2 (Bn g : Nat) (A B : World) : Prop := B.heap[Bn]? = A.heap[Bn]? ∧ B.heap[g]? = A.heap[g]?
theorem kp2_t {Bn g : Nat} {A B C : World} (h : Kp2 Bn g A B) (k : Kp2 Bn g B C) : Kp2 Bn g A C := ⟨k.1.trans h.1, k.2.trans h.2⟩
theorem kp2_b {Bn g : Nat} {w : World} (hn : Bn < w.heap.size) (hg : g < w.heap.size) (W : World) (l : Nat) (o o' : Obj) (hl : w.heap.size ≤ l) (h : W.heap[l]? = some o) (_ : o.isCells = false) (_ : o.isWalk = false) : Kp2 Bn g W (W.putObj l o') :=
  ⟨World.putObj_heap_other (by omega), World.putObj_heap_other (by omega)⟩
theorem kp2_alloc {Bn g : Nat} {W : World} (hn : Bn < W.heap.size) (hg : g < W.heap.size) (o : Obj) : Kp2 Bn g W (W.alloc o) := ⟨Below.heap_alloc _ _ _ hn, Below.heap_alloc _ _ _ hg⟩
theorem kp2_set {Bn g : Nat} {A W : World} {p : Addr} (h : Kp2 Bn g A W) (hn : Bn ≠ p.block) (hg : g ≠ p.block) (v : Value) : Kp2 Bn g A (W.setCell p v) := kp2_t h ⟨heap_setCell_other _ _ _ _ hn, heap_setCell_other _ _ _ _ hg⟩
theorem kp2_below {Bn g : Nat} {W W' : World} (h : Below W.heap.size W W') (hn : Bn < W.heap.size) (hg : g < W.heap.size) : Kp2 Bn g W W' := ⟨h.block Bn hn, h.block g hg⟩
theorem LiesV.same {xs : List Value} {g : Nat} {W W' : World} (h : LiesV xs (some ⟨g, 0, none⟩) W) (he : W'.heap[g]? = W.heap[g]?) : LiesV xs (some ⟨g, 0, none⟩) W' := by
  intro i hi
  obtain ⟨B, o, hb, hB, hc⟩ := h i hi
  simp only [Option.some.injEq, Addr.mk.injEq] at hb
  obtain ⟨rfl, rfl, -⟩ := hb
  refine ⟨g, 0, rfl, ?_, (World.cell?_of_block he).trans hc⟩
  rw [Array.getElem?_eq_getElem hB] at he
  exact (Array.getElem?_eq_some_iff.1 he).1
theorem prefix_take {α : Type} (L : List α) (k : Nat) : L.take k <+: L := List.take_prefix k L
end Go.Proofs.Ytklfkfnckdeifaa
