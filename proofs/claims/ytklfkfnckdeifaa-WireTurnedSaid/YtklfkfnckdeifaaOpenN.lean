/-
  A slice of notices that came in, read.
-/
import Derived.Test.YtklfkfnckdeifaaOpenL
import Derived.Test.YtklfkfnckdeifaaBookB
import Derived.Deep.Slices
import Derived.Deep.Fields
import Derived.ChangeSame
namespace Go.Proofs.Ytklfkfnckdeifaa
set_option linter.unusedSimpArgs false
set_option linter.unusedVariables false
open Go.ChangeShapes Go.WideShapes Go.ChangeAt Go.RowKit Go.Deep
theorem cellsN : Try.prog.cellsOf 84 = 3 := by kernel_rfl
theorem list3n {α : Type} (l : List α) (h : l.length = 3) : ∃ a b c, l = [a, b, c] := by
  match l, h with
  | [a, b, c], _ => exact ⟨a, b, c, rfl⟩
def Nt.wf (x : Nt) : Prop := (Lit.int .i64 x.of_).wf = true ∧ (Lit.int .i64 x.tag).wf = true ∧ (Lit.int .i64 x.kind).wf = true
set_option maxRecDepth 100000 in
theorem open_noticesS {H : Type} {enc : TypeId × Value → H} {w : World} {held : Bool} {a0 : Option Addr} {len0 cap0 : Nat} {d : DataW H} {ps : List MemPlace}
    (hd : DataW.Trod enc Try.prog w 0 (fun _ => true) held 31 (.slice a0 len0 cap0) d ps) :
    ∃ (l : List Nt) (base : Option Addr) (cap : Nat), Value.slice a0 len0 cap0 = .slice base l.length cap ∧ LiesV (ntsV l) base w ∧ l.length ≤ cap ∧ ∀ x ∈ l, x.wf := by
  obtain ⟨fuel, hf⟩ := hd
  rcases open_slice Try.underlying31 hf with ⟨hcs, hx⟩ | ⟨a, len, cap, m, n, D, Pl, hcs, _, hl, hm, hmm, hx, hel⟩
  · simp [Value.cells] at hcs
    obtain ⟨rfl, rfl, rfl⟩ := hcs
    exact ⟨[], none, 0, rfl, (fun i hi => by simp [ntsV] at hi), by simp, by simp⟩
  · simp [Value.cells] at hcs
    obtain ⟨rfl, rfl, rfl⟩ := hcs
    simp only [if_true] at hmm
    subst hmm
    have hP : ∀ i, ∃ x : Nt, i < len0 → x.wf ∧ ∀ j u, (ntV x)[j]? = some u → w.cell? (a.add (i * 3 + j)) = some u := by
      intro i
      by_cases hi : i < len0
      · obtain ⟨cs', hc, ht'⟩ := hel i (by omega)
        rw [cellsN] at hc
        obtain ⟨_, hcl, hat⟩ := World.cells?_some hc
        obtain ⟨ys, n', hn', hy, hlen, hyl, hfl⟩ := DataW.trod_struct Try.underlying84 ht'
        obtain ⟨c0, c1, c2, rfl⟩ := list3n cs' hcl
        obtain ⟨y0, y1, y2, rfl⟩ := list3n ys hyl
        have f0 := hfl 0 _ rfl
        have f1 := hfl 1 _ rfl
        have f2 := hfl 2 _ rfl
        change DataW.trod enc Try.prog w 0 (fun _ => true) held n' 3 ((List.drop 0 [c0, c1, c2]).take (Try.prog.cellsOf 3)) = some y0 at f0
        change DataW.trod enc Try.prog w 0 (fun _ => true) held n' 3 ((List.drop 1 [c0, c1, c2]).take (Try.prog.cellsOf 3)) = some y1 at f1
        change DataW.trod enc Try.prog w 0 (fun _ => true) held n' 3 ((List.drop 2 [c0, c1, c2]).take (Try.prog.cellsOf 3)) = some y2 at f2
        rw [cellsI] at f0 f1 f2
        simp only [List.drop_zero, List.drop_succ_cons, List.take_succ_cons, List.take_zero] at f0 f1 f2
        obtain ⟨x0, e0, -, w0⟩ := DataW.trod_int Try.underlying3 f0
        obtain ⟨x1, e1, -, w1⟩ := DataW.trod_int Try.underlying3 f1
        obtain ⟨x2, e2, -, w2⟩ := DataW.trod_int Try.underlying3 f2
        simp only [List.cons.injEq, and_true] at e0 e1 e2
        subst e0 e1 e2
        refine ⟨⟨x0, x1, x2⟩, fun _ => ⟨⟨w0, w1, w2⟩, ?_⟩⟩
        intro j u hj
        have hj3 : j < 3 := (List.getElem?_eq_some_iff.1 hj).1
        have := hat j hj3
        rw [← add_add, this, ← hj]
        rfl
      · exact ⟨⟨0, 0, 0⟩, fun h => absurd h hi⟩
    obtain ⟨g, hg⟩ := Classical.skolem.1 hP
    refine ⟨(List.range len0).map g, some a, m, by simp, ?_, by simp; omega, ?_⟩
    · intro i hi
      rw [ntsV_len] at hi
      have hlen : ((List.range len0).map g).length = len0 := by simp
      rw [hlen] at hi
      have hc00 := (hg 0 (by omega)).2 0 _ rfl
      have ha : a.add (0 * 3 + 0) = a := by simp [Addr.add]
      rw [ha] at hc00
      obtain ⟨B, o, rfl, hB⟩ := spot_none hc00
      refine ⟨B, o, rfl, hB, ?_⟩
      have hk : i / 3 < len0 := by omega
      have hj : i % 3 < 3 := Nat.mod_lt _ (by omega)
      have hij : i = i / 3 * 3 + i % 3 := by omega
      have hget := ntsV_get ((List.range len0).map g) (i / 3) (i % 3) (by rw [hlen]; exact hk) hj
      rw [← hij] at hget
      rw [hget, List.getElem_map, List.getElem_range]
      obtain ⟨u, hu⟩ : ∃ u, (ntV (g (i / 3)))[i % 3]? = some u := ⟨_, List.getElem?_eq_getElem (by show i % 3 < 3; exact hj)⟩
      have := (hg (i / 3) hk).2 (i % 3) u hu
      rw [← hij, add_none] at this
      rw [this, hu]
    · intro x hx
      obtain ⟨i, hi, rfl⟩ := List.mem_map.1 hx
      exact (hg i (List.mem_range.1 hi)).1
set_option maxRecDepth 100000 in
theorem open_notices {H : Type} {enc : TypeId × Value → H} {w : World} {r : Reach} {b0 : Nat} {held : Bool} {v : Value} {d : DataW H} {ps : List MemPlace}
    (hval : Value.okWide Try.prog w r b0 31 v) (hd : DataW.Trod enc Try.prog w 0 (fun _ => true) held 31 v d ps) :
    ∃ (l : List Nt) (base : Option Addr) (cap : Nat), v = .slice base l.length cap ∧ LiesV (ntsV l) base w ∧ l.length ≤ cap ∧ ∀ x ∈ l, x.wf := by
  obtain ⟨a0, len0, cap0, rfl⟩ := okWide_slice Try.underlying31 hval
  exact open_noticesS hd
end Go.Proofs.Ytklfkfnckdeifaa
