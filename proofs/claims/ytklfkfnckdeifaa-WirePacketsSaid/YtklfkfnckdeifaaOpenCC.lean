/-
  An array of four words, read as a set; shut again.
  A slice of ints that came in, read.
  A slice of bytes that came in, read.
  A slice of bytes that came in, with its capacity.
-/
import Derived.Test.YtklfkfnckdeifaaMath
import Derived.Test.YtklfkfnckdeifaaRows
import Derived.ProofKit
import Derived.OpenShut
import Derived.Laws.IdiomArrays
import Derived.Test.YtklfkfnckdeifaaCut
import Derived.ChangeSlices
import Derived.Test.YtklfkfnckdeifaaWireA
import Derived.SizedLaws
section
namespace Go.Proofs.Ytklfkfnckdeifaa
set_option linter.unusedSimpArgs false
set_option linter.unusedVariables false
open Go.ChangeShapes Go.WideShapes Go.ChangeAt Go.RowKit
theorem own : ownKnob Try.prog.godebug = none := by kernel_rfl
theorem laidOut : laidOutB Try.prog = true := by kernel_rfl
theorem cellsW : Try.prog.cellsOf 28 = 1 := by kernel_rfl
theorem cellsS : Try.prog.cellsOf 30 = 4 := by kernel_rfl
theorem list4 {α : Type} (l : List α) (h : (⟨l⟩ : Array α).size = 4) : ∃ a b c d, l = [a, b, c, d] := by
  match l, h with
  | [a, b, c, d], _ => exact ⟨a, b, c, d, rfl⟩
theorem u32_of_wf {n : Int} (h : (Lit.int .u32 n).wf = true) : 0 ≤ n ∧ n < 4294967296 := by
  have := bounds_u32 h
  omega
set_option maxRecDepth 100000 in
theorem open_set {H : Type} {enc : TypeId × Value → H} {w : World} {base : Nat} {sp : Nat → Bool} {held : Bool} {r : Reach} {b0 : Nat} {v : Value} {d : DataW H} {ps : List MemPlace}
    (hval : Value.okWide Try.prog w r b0 30 v) (hd : DataW.Trod enc Try.prog w base sp held 30 v d ps) :
    ∃ x : BitVec 128, v = .agg #[.int .u32 (Ear.wd (x) 0), .int .u32 (Ear.wd (x) 1), .int .u32 (Ear.wd (x) 2), .int .u32 (Ear.wd (x) 3)] ∧ ps = [] := by
  obtain ⟨cs, rfl, hsz, _⟩ : ∃ cs, v = .agg cs ∧ cs.size = Try.prog.cellsOf 30 ∧ Row.okWide Try.prog w r b0 30 cs := by
    have := hval
    simpa [Value.okWide, Try.underlying30] using this
  rw [cellsS] at hsz
  obtain ⟨l⟩ := cs
  obtain ⟨c0, c1, c2, c3, rfl⟩ := list4 l hsz
  obtain ⟨fuel, hf⟩ := hd
  obtain ⟨y0, y1, y2, y3, m, hx, hy0, hy1, hy2, hy3⟩ := trod_array4 Try.underlying30 cellsW hf
  obtain ⟨x0, e0, rfl, w0⟩ := DataW.trod_int Try.underlying28 hy0
  obtain ⟨x1, e1, rfl, w1⟩ := DataW.trod_int Try.underlying28 hy1
  obtain ⟨x2, e2, rfl, w2⟩ := DataW.trod_int Try.underlying28 hy2
  obtain ⟨x3, e3, rfl, w3⟩ := DataW.trod_int Try.underlying28 hy3
  simp at e0 e1 e2 e3
  subst e0 e1 e2 e3
  simp only [Prod.mk.injEq] at hx
  obtain ⟨v, h0, h1, h2, h3⟩ := Ear.wd_of_words x0 x1 x2 x3 (u32_of_wf w0) (u32_of_wf w1) (u32_of_wf w2) (u32_of_wf w3)
  exact ⟨v, by rw [h0, h1, h2, h3], by rw [hx.2]; rfl⟩
end Go.Proofs.Ytklfkfnckdeifaa
end
section
namespace Go.Proofs.Ytklfkfnckdeifaa
set_option linter.unusedSimpArgs false
set_option linter.unusedVariables false
open Go.ChangeShapes Go.WideShapes Go.ChangeAt Go.RowKit
theorem cellsI : Try.prog.cellsOf 3 = 1 := by kernel_rfl
theorem spot_none {w : World} {a : Addr} {v : Value} (h : w.cell? a = some v) : ∃ B o, a = ⟨B, o, none⟩ ∧ B < w.heap.size := by
  obtain ⟨B, o, s⟩ := a
  refine ⟨B, o, ?_, World.block_lt_of_cell? w _ h⟩
  cases s with
  | none => rfl
  | some s =>
    unfold World.cell? at h
    split at h <;> simp at h
theorem add_none (B o i : Nat) : (⟨B, o, none⟩ : Addr).add i = ⟨B, o + i, none⟩ := by
  unfold Addr.add
  by_cases h : i = 0
  · subst h; simp
  · simp [h]
end Go.Proofs.Ytklfkfnckdeifaa
end
section
namespace Go.Proofs.Ytklfkfnckdeifaa
set_option linter.unusedSimpArgs false
set_option linter.unusedVariables false
open Go.ChangeShapes Go.WideShapes Go.ChangeAt Go.RowKit
theorem cellsU : Try.prog.cellsOf 5 = 1 := by kernel_rfl
theorem bytesU : Try.prog.bytesOf 5 = 1 := by kernel_rfl
set_option maxRecDepth 100000 in
theorem open_bytes {H : Type} {enc : TypeId × Value → H} {w : World} {r : Reach} {b0 : Nat} {held : Bool} {v : Value} {d : DataW H} {ps : List MemPlace}
    (hval : Value.okWide Try.prog w r b0 22 v) (hd : DataW.Trod enc Try.prog w 0 (fun _ => true) held 22 v d ps) :
    ∃ (l : List Int) (base : Option Addr) (cap : Nat), v = .slice base l.length cap ∧ LiesV (bytesV l) base w ∧ byteOk l ∧ (l = [] ∨ ∃ es sp, d = .slice es sp ∧ es.length = l.length) := by
  obtain ⟨a0, len0, cap0, rfl⟩ := okWide_slice Try.underlying22 hval
  obtain ⟨fuel, hf⟩ := hd
  rcases open_ints Try.underlying22 Try.underlying5 cellsU hf with ⟨hcs, hx⟩ | ⟨a, len, cap, zs, hcs, _, hl, hm, hz, hx, hcell, hwz⟩
  · simp [Value.cells] at hcs
    obtain ⟨rfl, rfl, rfl⟩ := hcs
    exact ⟨[], none, 0, rfl, (fun i hi => by simp [bytesV] at hi), (fun x hx => by simp at hx), .inl rfl⟩
  · simp [Value.cells] at hcs
    obtain ⟨rfl, rfl, rfl⟩ := hcs
    simp only [if_true] at hz
    have hlen : (zs.take len0).length = len0 := by rw [List.length_take]; omega
    refine ⟨zs.take len0, some a, cap0, by rw [hlen], ?_, fun x hx => by have := bounds_u8 (hwz x (List.mem_of_mem_take hx)); omega, .inr ⟨_, _, congrArg Prod.fst hx, by simp [lits]⟩⟩
    intro i hi
    rw [bytesV_len] at hi
    have hc0 := hcell 0 (by omega)
    have hi0 := hcell i (by omega)
    have ha : a.add 0 = a := by simp [Addr.add]
    rw [ha] at hc0
    obtain ⟨B, o, rfl, hB⟩ := spot_none hc0
    rw [add_none] at hi0
    refine ⟨B, o, rfl, hB, ?_⟩
    rw [hi0, bytesV_get _ _ hi]
    simp
    have : i < zs.length := by omega
    simp [this]
/-- The form's own reach: a slice of bytes is no longer than that. -/
theorem bytes_reach {H : Type} {ts : List TypeId} {ds : List (DataW H)} (h : (DataW.weightsEach Try.prog ts ds).all (· ≤ reachBytes) = true) {j : Nat} {d : DataW H} {l : List Int} (ht : ts[j]? = some 22) (hd : ds[j]? = some d) (hl : l = [] ∨ ∃ es sp, d = .slice es sp ∧ es.length = l.length) : l.length ≤ 140737488351232 := by
  rcases hl with rfl | ⟨es, sp, rfl, he⟩
  · simp
  · have := sized_slice h ht hd Try.underlying22
    rw [bytesU] at this
    unfold reachBytes at this
    omega
end Go.Proofs.Ytklfkfnckdeifaa
end
section
namespace Go.Proofs.Ytklfkfnckdeifaa
set_option linter.unusedSimpArgs false
set_option linter.unusedVariables false
open Go.ChangeShapes Go.WideShapes Go.ChangeAt Go.RowKit
set_option maxRecDepth 100000 in
theorem open_bytesC {H : Type} {enc : TypeId × Value → H} {w : World} {r : Reach} {b0 : Nat} {held : Bool} {v : Value} {d : DataW H} {ps : List MemPlace}
    (hval : Value.okWide Try.prog w r b0 22 v) (hd : DataW.Trod enc Try.prog w 0 (fun _ => true) held 22 v d ps) :
    ∃ (l : List Int) (base : Option Addr) (cap : Nat), v = .slice base l.length cap ∧ LiesV (bytesV l) base w ∧ byteOk l ∧ (l = [] ∨ ∃ es sp, d = .slice es sp ∧ es.length = l.length) ∧ l.length ≤ cap := by
  obtain ⟨a0, len0, cap0, rfl⟩ := okWide_slice Try.underlying22 hval
  obtain ⟨fuel, hf⟩ := hd
  rcases open_ints Try.underlying22 Try.underlying5 cellsU hf with ⟨hcs, hx⟩ | ⟨a, len, cap, zs, hcs, _, hl, hm, hz, hx, hcell, hwz⟩
  · simp [Value.cells] at hcs
    obtain ⟨rfl, rfl, rfl⟩ := hcs
    exact ⟨[], none, 0, rfl, (fun i hi => by simp [bytesV] at hi), (fun x hx => by simp at hx), .inl rfl, Nat.le_refl _⟩
  · simp [Value.cells] at hcs
    obtain ⟨rfl, rfl, rfl⟩ := hcs
    simp only [if_true] at hz
    have hlen : (zs.take len0).length = len0 := by rw [List.length_take]; omega
    refine ⟨zs.take len0, some a, cap0, by rw [hlen], ?_, fun x hx => by have := bounds_u8 (hwz x (List.mem_of_mem_take hx)); omega, .inr ⟨_, _, congrArg Prod.fst hx, by simp [lits]⟩, by rw [hlen]; omega⟩
    intro i hi
    rw [bytesV_len] at hi
    have hc0 := hcell 0 (by omega)
    have hi0 := hcell i (by omega)
    have ha : a.add 0 = a := by simp [Addr.add]
    rw [ha] at hc0
    obtain ⟨B, o, rfl, hB⟩ := spot_none hc0
    rw [add_none] at hi0
    refine ⟨B, o, rfl, hB, ?_⟩
    rw [hi0, bytesV_get _ _ hi]
    simp
    have : i < zs.length := by omega
    simp [this]
end Go.Proofs.Ytklfkfnckdeifaa
end
