/-
  A slice of ints that came in, read.
-/
import Derived.Test.YtfnolmlmmimehaaOpen
import Derived.Test.YtfnolmlmmimehaaCut
import Derived.ChangeSlices
import Derived.ProofKit
import Derived.OpenShut
namespace Go.Proofs.Ytfnolmlmmimehaa
set_option linter.unusedSimpArgs false
set_option linter.unusedVariables false
open Go.ChangeShapes Go.WideShapes Go.ChangeAt Go.RowKit
theorem cellsI : Try.prog.cellsOf 3 = 1 := by kernel_rfl
theorem spot_none {w : World} {a : Addr} {v : Value} (h : w.cell? a = some v) : ∃ B o, a = ⟨B, o, none⟩ ∧ B < w.heap.size := by
  obtain ⟨B, o, s⟩ := a
  refine ⟨B, o, ?_, World.block_lt_of_cell? w _ h⟩
  cases s with
  | none => rfl
  | some s =>
    unfold World.cell? at h
    split at h <;> simp at h
theorem add_none (B o i : Nat) : (⟨B, o, none⟩ : Addr).add i = ⟨B, o + i, none⟩ := by
  unfold Addr.add
  by_cases h : i = 0
  · subst h; simp
  · simp [h]
set_option maxRecDepth 100000 in
theorem open_intL {H : Type} {enc : TypeId × Value → H} {w : World} {r : Reach} {b0 : Nat} {held : Bool} {v : Value} {d : DataW H} {ps : List MemPlace}
    (hval : Value.okWide Try.prog w r b0 35 v) (hd : DataW.Trod enc Try.prog w 0 (fun _ => true) held 35 v d ps) :
    ∃ (l : List Int) (base : Option Addr) (cap : Nat), v = .slice base l.length cap ∧ Lies l base w ∧ l.length ≤ maxLen ∧ ∀ x ∈ l, (Lit.int .i64 x).wf = true := by
  obtain ⟨a0, len0, cap0, rfl⟩ := okWide_slice Try.underlying35 hval
  obtain ⟨fuel, hf⟩ := hd
  rcases open_ints Try.underlying35 Try.underlying3 cellsI hf with ⟨hcs, hx⟩ | ⟨a, len, cap, zs, hcs, _, hl, hm, hz, hx, hcell, hwz⟩
  · simp [Value.cells] at hcs
    obtain ⟨rfl, rfl, rfl⟩ := hcs
    exact ⟨[], none, 0, rfl, (fun i hi => by simp at hi), by simp, by simp⟩
  · simp [Value.cells] at hcs
    obtain ⟨rfl, rfl, rfl⟩ := hcs
    simp only [if_true] at hz
    have hlen : (zs.take len0).length = len0 := by rw [List.length_take]; omega
    refine ⟨zs.take len0, some a, cap0, by rw [hlen], ?_, by omega, fun x hx => hwz x (List.mem_of_mem_take hx)⟩
    intro i hi
    have hc0 := hcell 0 (by omega)
    have hi0 := hcell i (by omega)
    have ha : a.add 0 = a := by simp [Addr.add]
    rw [ha] at hc0
    obtain ⟨B, o, rfl, hB⟩ := spot_none hc0
    rw [add_none] at hi0
    refine ⟨B, o, rfl, hB, ?_⟩
    rw [hi0]
    simp
    have : i < zs.length := by omega
    simp [this]
end Go.Proofs.Ytfnolmlmmimehaa
