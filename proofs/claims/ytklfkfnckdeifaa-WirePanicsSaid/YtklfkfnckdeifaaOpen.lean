/-
  An array of four words, read as a set; shut again.
-/
import Derived.Test.YtklfkfnckdeifaaMath
import Derived.Test.YtklfkfnckdeifaaRows
import Derived.ProofKit
import Derived.OpenShut
import Derived.Laws.IdiomArrays
namespace Go.Proofs.Ytklfkfnckdeifaa
set_option linter.unusedSimpArgs false
set_option linter.unusedVariables false
open Go.ChangeShapes Go.WideShapes Go.ChangeAt Go.RowKit
theorem own : ownKnob Try.prog.godebug = none := by kernel_rfl
theorem laidOut : laidOutB Try.prog = true := by kernel_rfl
theorem cellsW : Try.prog.cellsOf 28 = 1 := by kernel_rfl
theorem cellsS : Try.prog.cellsOf 30 = 4 := by kernel_rfl
theorem list4 {α : Type} (l : List α) (h : (⟨l⟩ : Array α).size = 4) : ∃ a b c d, l = [a, b, c, d] := by
  match l, h with
  | [a, b, c, d], _ => exact ⟨a, b, c, d, rfl⟩
theorem u32_of_wf {n : Int} (h : (Lit.int .u32 n).wf = true) : 0 ≤ n ∧ n < 4294967296 := by
  have := bounds_u32 h
  omega
set_option maxRecDepth 100000 in
theorem open_set {H : Type} {enc : TypeId × Value → H} {w : World} {base : Nat} {sp : Nat → Bool} {held : Bool} {r : Reach} {b0 : Nat} {v : Value} {d : DataW H} {ps : List MemPlace}
    (hval : Value.okWide Try.prog w r b0 30 v) (hd : DataW.Trod enc Try.prog w base sp held 30 v d ps) :
    ∃ x : BitVec 128, v = .agg #[.int .u32 (Ear.wd (x) 0), .int .u32 (Ear.wd (x) 1), .int .u32 (Ear.wd (x) 2), .int .u32 (Ear.wd (x) 3)] ∧ ps = [] := by
  obtain ⟨cs, rfl, hsz, _⟩ : ∃ cs, v = .agg cs ∧ cs.size = Try.prog.cellsOf 30 ∧ Row.okWide Try.prog w r b0 30 cs := by
    have := hval
    simpa [Value.okWide, Try.underlying30] using this
  rw [cellsS] at hsz
  obtain ⟨l⟩ := cs
  obtain ⟨c0, c1, c2, c3, rfl⟩ := list4 l hsz
  obtain ⟨fuel, hf⟩ := hd
  obtain ⟨y0, y1, y2, y3, m, hx, hy0, hy1, hy2, hy3⟩ := trod_array4 Try.underlying30 cellsW hf
  obtain ⟨x0, e0, rfl, w0⟩ := DataW.trod_int Try.underlying28 hy0
  obtain ⟨x1, e1, rfl, w1⟩ := DataW.trod_int Try.underlying28 hy1
  obtain ⟨x2, e2, rfl, w2⟩ := DataW.trod_int Try.underlying28 hy2
  obtain ⟨x3, e3, rfl, w3⟩ := DataW.trod_int Try.underlying28 hy3
  simp at e0 e1 e2 e3
  subst e0 e1 e2 e3
  simp only [Prod.mk.injEq] at hx
  obtain ⟨v, h0, h1, h2, h3⟩ := Ear.wd_of_words x0 x1 x2 x3 (u32_of_wf w0) (u32_of_wf w1) (u32_of_wf w2) (u32_of_wf w3)
  exact ⟨v, by rw [h0, h1, h2, h3], by rw [hx.2]; rfl⟩
end Go.Proofs.Ytklfkfnckdeifaa
