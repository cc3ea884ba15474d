/-
  A slice of bytes that came in, read.
-/
import Derived.Test.YtklfkfnckdeifaaOpenL
import Derived.Test.YtklfkfnckdeifaaWireA
import Derived.SizedLaws
namespace Go.Proofs.Ytklfkfnckdeifaa
set_option linter.unusedSimpArgs false
set_option linter.unusedVariables false
open Go.ChangeShapes Go.WideShapes Go.ChangeAt Go.RowKit
theorem cellsU : Try.prog.cellsOf 5 = 1 := by kernel_rfl
theorem bytesU : Try.prog.bytesOf 5 = 1 := by kernel_rfl
set_option maxRecDepth 100000 in
theorem open_bytes {H : Type} {enc : TypeId × Value → H} {w : World} {r : Reach} {b0 : Nat} {held : Bool} {v : Value} {d : DataW H} {ps : List MemPlace}
    (hval : Value.okWide Try.prog w r b0 22 v) (hd : DataW.Trod enc Try.prog w 0 (fun _ => true) held 22 v d ps) :
    ∃ (l : List Int) (base : Option Addr) (cap : Nat), v = .slice base l.length cap ∧ LiesV (bytesV l) base w ∧ byteOk l ∧ (l = [] ∨ ∃ es sp, d = .slice es sp ∧ es.length = l.length) := by
  obtain ⟨a0, len0, cap0, rfl⟩ := okWide_slice Try.underlying22 hval
  obtain ⟨fuel, hf⟩ := hd
  rcases open_ints Try.underlying22 Try.underlying5 cellsU hf with ⟨hcs, hx⟩ | ⟨a, len, cap, zs, hcs, _, hl, hm, hz, hx, hcell, hwz⟩
  · simp [Value.cells] at hcs
    obtain ⟨rfl, rfl, rfl⟩ := hcs
    exact ⟨[], none, 0, rfl, (fun i hi => by simp [bytesV] at hi), (fun x hx => by simp at hx), .inl rfl⟩
  · simp [Value.cells] at hcs
    obtain ⟨rfl, rfl, rfl⟩ := hcs
    simp only [if_true] at hz
    have hlen : (zs.take len0).length = len0 := by rw [List.length_take]; omega
    refine ⟨zs.take len0, some a, cap0, by rw [hlen], ?_, fun x hx => by have := bounds_u8 (hwz x (List.mem_of_mem_take hx)); omega, .inr ⟨_, _, congrArg Prod.fst hx, by simp [lits]⟩⟩
    intro i hi
    rw [bytesV_len] at hi
    have hc0 := hcell 0 (by omega)
    have hi0 := hcell i (by omega)
    have ha : a.add 0 = a := by simp [Addr.add]
    rw [ha] at hc0
    obtain ⟨B, o, rfl, hB⟩ := spot_none hc0
    rw [add_none] at hi0
    refine ⟨B, o, rfl, hB, ?_⟩
    rw [hi0, bytesV_get _ _ hi]
    simp
    have : i < zs.length := by omega
    simp [this]
/-- The form's own reach: a slice of bytes is no longer than that. -/
theorem bytes_reach {H : Type} {ts : List TypeId} {ds : List (DataW H)} (h : (DataW.weightsEach Try.prog ts ds).all (· ≤ reachBytes) = true) {j : Nat} {d : DataW H} {l : List Int} (ht : ts[j]? = some 22) (hd : ds[j]? = some d) (hl : l = [] ∨ ∃ es sp, d = .slice es sp ∧ es.length = l.length) : l.length ≤ 140737488351232 := by
  rcases hl with rfl | ⟨es, sp, rfl, he⟩
  · simp
  · have := sized_slice h ht hd Try.underlying22
    rw [bytesU] at this
    unfold reachBytes at this
    omega
end Go.Proofs.Ytklfkfnckdeifaa
