/-
  A slice of sets that came in, read.
-/
import Derived.Test.YtfnolmlmmimehaaOpenL
import Derived.Test.YtfnolmlmmimehaaTallyA
import Derived.Deep.Slices
import Derived.Deep.Fields
import Derived.ChangeSame
namespace Go.Proofs.Ytfnolmlmmimehaa
set_option linter.unusedSimpArgs false
set_option linter.unusedVariables false
open Go.ChangeShapes Go.WideShapes Go.ChangeAt Go.RowKit Go.Deep
theorem list4s {α : Type} (l : List α) (h : l.length = 4) : ∃ a b c d, l = [a, b, c, d] := by
  match l, h with
  | [a, b, c, d], _ => exact ⟨a, b, c, d, rfl⟩
set_option maxRecDepth 100000 in
theorem open_sets {H : Type} {enc : TypeId × Value → H} {w : World} {r : Reach} {b0 : Nat} {held : Bool} {v : Value} {d : DataW H} {ps : List MemPlace}
    (hval : Value.okWide Try.prog w r b0 22 v) (hd : DataW.Trod enc Try.prog w 0 (fun _ => true) held 22 v d ps) :
    ∃ (l : List (BitVec 128)) (base : Option Addr) (cap : Nat), v = .slice base l.length cap ∧ LiesV (setsV l) base w ∧ l.length ≤ cap ∧ l.length ≤ maxLen := by
  obtain ⟨a0, len0, cap0, rfl⟩ := okWide_slice Try.underlying22 hval
  obtain ⟨fuel, hf⟩ := hd
  rcases open_slice Try.underlying22 hf with ⟨hcs, hx⟩ | ⟨a, len, cap, m, n, D, Pl, hcs, _, hl, hm, hmm, hx, hel⟩
  · simp [Value.cells] at hcs
    obtain ⟨rfl, rfl, rfl⟩ := hcs
    exact ⟨[], none, 0, rfl, (fun i hi => by simp [setsV] at hi), by simp, by simp⟩
  · simp [Value.cells] at hcs
    obtain ⟨rfl, rfl, rfl⟩ := hcs
    simp only [if_true] at hmm
    subst hmm
    have hP : ∀ i, ∃ x : BitVec 128, i < len0 → ∀ j, j < 4 → w.cell? (a.add (i * 4 + j)) = some (.int .u32 (Ear.wd x j)) := by
      intro i
      by_cases hi : i < len0
      · obtain ⟨cs', hc, ht'⟩ := hel i (by omega)
        rw [cellsS] at hc
        obtain ⟨_, hcl, hat⟩ := World.cells?_some hc
        obtain ⟨c0, c1, c2, c3, rfl⟩ := list4s cs' hcl
        obtain ⟨y0, y1, y2, y3, m', hx', hy0, hy1, hy2, hy3⟩ := trod_array4 Try.underlying26 cellsW ht'
        obtain ⟨x0, e0, -, w0⟩ := DataW.trod_int Try.underlying24 hy0
        obtain ⟨x1, e1, -, w1⟩ := DataW.trod_int Try.underlying24 hy1
        obtain ⟨x2, e2, -, w2⟩ := DataW.trod_int Try.underlying24 hy2
        obtain ⟨x3, e3, -, w3⟩ := DataW.trod_int Try.underlying24 hy3
        simp only [List.cons.injEq, and_true] at e0 e1 e2 e3
        subst e0 e1 e2 e3
        obtain ⟨v, h0, h1, h2, h3⟩ := Ear.wd_of_words x0 x1 x2 x3 (u32_of_wf w0) (u32_of_wf w1) (u32_of_wf w2) (u32_of_wf w3)
        refine ⟨v, fun _ j hj => ?_⟩
        have := hat j hj
        rw [← add_add, this]
        rcases (by omega : j = 0 ∨ j = 1 ∨ j = 2 ∨ j = 3) with rfl | rfl | rfl | rfl
        · rw [h0]; rfl
        · rw [h1]; rfl
        · rw [h2]; rfl
        · rw [h3]; rfl
      · exact ⟨0#128, fun h => absurd h hi⟩
    obtain ⟨g, hg⟩ := Classical.skolem.1 hP
    refine ⟨(List.range len0).map g, some a, m, by simp, ?_, by simp; omega, by simp; omega⟩
    intro i hi
    rw [setsV_len] at hi
    have hlen : ((List.range len0).map g).length = len0 := by simp
    rw [hlen] at hi
    have hc00 := hg 0 (by omega) 0 (by omega)
    have ha : a.add (0 * 4 + 0) = a := by simp [Addr.add]
    rw [ha] at hc00
    obtain ⟨B, o, rfl, hB⟩ := spot_none hc00
    refine ⟨B, o, rfl, hB, ?_⟩
    have hk : i / 4 < len0 := by omega
    have hj : i % 4 < 4 := Nat.mod_lt _ (by omega)
    have hij : i = i / 4 * 4 + i % 4 := by omega
    have hget := setsV_get ((List.range len0).map g) (i / 4) (i % 4) (by rw [hlen]; exact hk) hj
    rw [← hij] at hget
    rw [hget, List.getElem_map, List.getElem_range]
    have := hg (i / 4) hk (i % 4) hj
    rw [← hij, add_none] at this
    exact this
end Go.Proofs.Ytfnolmlmmimehaa
