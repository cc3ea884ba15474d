/-
  A slice of replies that came in, read.
-/
import Derived.Test.YtfnolmlmmimehaaOpenL
import Derived.Test.YtfnolmlmmimehaaTallyF
import Derived.Deep.Slices
import Derived.Deep.Fields
import Derived.ChangeSame
namespace Go.Proofs.Ytfnolmlmmimehaa
set_option linter.unusedSimpArgs false
set_option linter.unusedVariables false
open Go.ChangeShapes Go.WideShapes Go.ChangeAt Go.RowKit Go.Deep
/-- A reply, as data. -/
structure Rp where
  from_ : Int
  round : Int
  heard : BitVec 128
def rpV (x : Rp) : List Value := [.int .i64 x.from_, .int .i64 x.round, .int .u32 (Ear.wd x.heard 0), .int .u32 (Ear.wd x.heard 1), .int .u32 (Ear.wd x.heard 2), .int .u32 (Ear.wd x.heard 3)]
/-- Where replies lie. -/
def LiesR (l : List Rp) (base : Option Addr) (w : World) : Prop :=
  ∀ i (hi : i < l.length), ∃ B o, base = some ⟨B, o, none⟩ ∧ B < w.heap.size ∧ ∀ j u, (rpV l[i])[j]? = some u → w.cell? ⟨B, o + (i * 6 + j), none⟩ = some u
def Rp.wf (x : Rp) : Prop := (Lit.int .i64 x.from_).wf = true ∧ (Lit.int .i64 x.round).wf = true
theorem cellsR : Try.prog.cellsOf 43 = 6 := by kernel_rfl
theorem list6 {α : Type} (l : List α) (h : l.length = 6) : ∃ a b c d e f, l = [a, b, c, d, e, f] := by
  match l, h with
  | [a, b, c, d, e, f], _ => exact ⟨a, b, c, d, e, f, rfl⟩
theorem list3 {α : Type} (l : List α) (h : l.length = 3) : ∃ a b c, l = [a, b, c] := by
  match l, h with
  | [a, b, c], _ => exact ⟨a, b, c, rfl⟩
set_option maxRecDepth 100000 in
theorem open_replies {H : Type} {enc : TypeId × Value → H} {w : World} {r : Reach} {b0 : Nat} {held : Bool} {v : Value} {d : DataW H} {ps : List MemPlace}
    (hval : Value.okWide Try.prog w r b0 30 v) (hd : DataW.Trod enc Try.prog w 0 (fun _ => true) held 30 v d ps) :
    ∃ (l : List Rp) (base : Option Addr) (cap : Nat), v = .slice base l.length cap ∧ LiesR l base w ∧ l.length ≤ maxLen ∧ ∀ x ∈ l, x.wf := by
  obtain ⟨a0, len0, cap0, rfl⟩ := okWide_slice Try.underlying30 hval
  obtain ⟨fuel, hf⟩ := hd
  rcases open_slice Try.underlying30 hf with ⟨hcs, hx⟩ | ⟨a, len, cap, m, n, D, Pl, hcs, _, hl, hm, hmm, hx, hel⟩
  · simp [Value.cells] at hcs
    obtain ⟨rfl, rfl, rfl⟩ := hcs
    exact ⟨[], none, 0, rfl, (fun i hi => by simp at hi), by simp, by simp⟩
  · simp [Value.cells] at hcs
    obtain ⟨rfl, rfl, rfl⟩ := hcs
    simp only [if_true] at hmm
    subst hmm
    have hP : ∀ i, ∃ x : Rp, i < len0 → x.wf ∧ ∀ j u, (rpV x)[j]? = some u → w.cell? (a.add (i * 6 + j)) = some u := by
      intro i
      by_cases hi : i < len0
      · obtain ⟨cs', hc, ht'⟩ := hel i (by omega)
        rw [cellsR] at hc
        obtain ⟨_, hcl, hat⟩ := World.cells?_some hc
        obtain ⟨ys, n', hn', hy, hlen, hyl, hfl⟩ := DataW.trod_struct Try.underlying43 ht'
        obtain ⟨c0, c1, c2, c3, c4, c5, rfl⟩ := list6 cs' hcl
        obtain ⟨y0, y1, y2, rfl⟩ := list3 ys hyl
        have f0 := hfl 0 _ rfl
        have f1 := hfl 1 _ rfl
        have f2 := hfl 2 _ rfl
        change DataW.trod enc Try.prog w 0 (fun _ => true) held n' 3 ((List.drop 0 [c0, c1, c2, c3, c4, c5]).take (Try.prog.cellsOf 3)) = some y0 at f0
        change DataW.trod enc Try.prog w 0 (fun _ => true) held n' 3 ((List.drop 1 [c0, c1, c2, c3, c4, c5]).take (Try.prog.cellsOf 3)) = some y1 at f1
        change DataW.trod enc Try.prog w 0 (fun _ => true) held n' 26 ((List.drop 2 [c0, c1, c2, c3, c4, c5]).take (Try.prog.cellsOf 26)) = some y2 at f2
        rw [cellsI] at f0 f1
        rw [cellsS] at f2
        simp only [List.drop_zero, List.drop_succ_cons, List.take_succ_cons, List.take_zero, List.getElem?_cons_zero, List.getElem?_cons_succ] at f0 f1 f2
        obtain ⟨x0, e0, -, w0⟩ := DataW.trod_int Try.underlying3 f0
        obtain ⟨x1, e1, -, w1⟩ := DataW.trod_int Try.underlying3 f1
        obtain ⟨z0, z1, z2, z3, mm, hxx, hy0, hy1, hy2, hy3⟩ := trod_array4 Try.underlying26 cellsW f2
        obtain ⟨u0, e2, -, v0⟩ := DataW.trod_int Try.underlying24 hy0
        obtain ⟨u1, e3, -, v1⟩ := DataW.trod_int Try.underlying24 hy1
        obtain ⟨u2, e4, -, v2⟩ := DataW.trod_int Try.underlying24 hy2
        obtain ⟨u3, e5, -, v3⟩ := DataW.trod_int Try.underlying24 hy3
        simp only [List.cons.injEq, and_true] at e0 e1 e2 e3 e4 e5
        subst e0 e1 e2 e3 e4 e5
        obtain ⟨hv, h0, h1, h2, h3⟩ := Ear.wd_of_words u0 u1 u2 u3 (u32_of_wf v0) (u32_of_wf v1) (u32_of_wf v2) (u32_of_wf v3)
        refine ⟨⟨x0, x1, hv⟩, fun _ => ⟨⟨w0, w1⟩, ?_⟩⟩
        intro j u hj
        have hj6 : j < 6 := (List.getElem?_eq_some_iff.1 hj).1
        have := hat j hj6
        rw [← add_add, this, ← hj]
        unfold rpV
        simp only [h0, h1, h2, h3]
      · exact ⟨⟨0, 0, 0⟩, fun h => absurd h hi⟩
    obtain ⟨g, hg⟩ := Classical.skolem.1 hP
    refine ⟨(List.range len0).map g, some a, m, by simp, ?_, by simp; omega, ?_⟩
    · intro i hi
      have hi' : i < len0 := by simpa using hi
      have hc := (hg i hi').2
      have hc00 := (hg 0 (by omega)).2 0 _ rfl
      have ha : a.add (0 * 6 + 0) = a := by simp [Addr.add]
      rw [ha] at hc00
      obtain ⟨B, o, rfl, hB⟩ := spot_none hc00
      refine ⟨B, o, rfl, hB, ?_⟩
      intro j u hj
      rw [← add_none]
      refine hc j u ?_
      simpa using hj
    · intro x hx
      obtain ⟨i, hi, rfl⟩ := List.mem_map.1 hx
      exact (hg i (List.mem_range.1 hi)).1
theorem LiesR.below {l : List Rp} {base : Option Addr} {w w' : World} (h : LiesR l base w) (hb : Below w.heap.size w w') : LiesR l base w' := by
  intro i hi
  obtain ⟨B, o, he, hB, hc⟩ := h i hi
  exact ⟨B, o, he, Nat.lt_of_lt_of_le hB hb.size, fun j u hj => (hb.cell (p := ⟨B, o + (i * 6 + j), none⟩) hB).trans (hc j u hj)⟩
end Go.Proofs.Ytfnolmlmmimehaa
