/-
  What is known of a world at a cut: a list of blocks and their cells, and that whatever lay ahead of the call lies as it lay.
-/
import Derived.Test.YtfkgllbooopfdaaRef
import Derived.WalkKit
import Derived.Handy
namespace Go.Proofs.Ytfkgllbooopfdaa
set_option linter.unusedSimpArgs false
set_option linter.unusedVariables false
open Go.RowKit
namespace Ear

/-- Each block of the list has its cells; below n all is as in w0. -/
def Sh (n : Nat) (w0 : World) : List (Nat × TypeId × List Value) → World → Prop
  | [], W => Below n w0 W
  | (B, T, cs) :: L, W => Blk W B T cs ∧ Sh n w0 L W
theorem Sh.nil {n : Nat} {w0 W : World} (h : Below n w0 W) : Sh n w0 [] W := h
theorem Sh.cons {n : Nat} {w0 W : World} {B : Nat} {T : TypeId} {cs : List Value} {L : List (Nat × TypeId × List Value)} (h : Blk W B T cs) (k : Sh n w0 L W) : Sh n w0 ((B, T, cs) :: L) W := ⟨h, k⟩
/-- Both are known. -/
def AndW (A B : World → Prop) (W : World) : Prop := A W ∧ B W
theorem bp_world {P : Program} {f : Func} {Q : Ending → World → Prop} {x : Exit} {a : Act} {w : World} (Φ : World → Prop) (h : Φ w) (k : ∀ w', Φ w' → bodyPost P f Q x a w') : bodyPost P f Q x a w := k w h
theorem Blk.setC {W : World} {B : Nat} {T : TypeId} {cs : List Value} {i : Nat} {v : Value} (h : Blk W B T cs) : Blk (W.setCell ⟨B, i, none⟩ v) B T (cs.set i v) := h.set i v
theorem Blk.setC' {W : World} {B B' : Nat} {T : TypeId} {cs : List Value} {i : Nat} {v : Value} (h : Blk W B T cs) (e : B' = B) : Blk (W.setCell ⟨B', i, none⟩ v) B T (cs.set i v) := by subst e; exact h.set i v
theorem Blk.rowC {W : World} {B g T : Nat} {cs cs' : List Value} (h : Blk W B T cs) (e : g = B) : Blk (W.setRow g cs'.toArray) B T cs' := Blk.setRow' h e
theorem Blk.renew {W : World} {B T : Nat} {cs cs' : List Value} (h : Blk W B T cs) (e : cs = cs') : Blk W B T cs' := e ▸ h
end Ear
end Go.Proofs.Ytfkgllbooopfdaa
