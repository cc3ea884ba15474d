/-
  A note that came in, read.
-/
import Derived.Test.YtklfkfnckdeifaaOpenN
namespace Go.Proofs.Ytklfkfnckdeifaa
set_option linter.unusedSimpArgs false
set_option linter.unusedVariables false
open Go.ChangeShapes Go.WideShapes Go.ChangeAt Go.RowKit Go.Deep
theorem cellsW8 : Try.prog.cellsOf 33 = 8 := by kernel_rfl
theorem cellsNS : Try.prog.cellsOf 31 = 1 := by kernel_rfl
theorem list8w {α : Type} (l : List α) (h : l.length = 8) : ∃ a b c d e f g h, l = [a, b, c, d, e, f, g, h] := by
  match l, h with
  | [a, b, c, d, e, f, g, h], _ => exact ⟨a, b, c, d, e, f, g, h, rfl⟩
theorem list5w {α : Type} (l : List α) (h : l.length = 5) : ∃ a b c d e, l = [a, b, c, d, e] := by
  match l, h with
  | [a, b, c, d, e], _ => exact ⟨a, b, c, d, e, rfl⟩
set_option maxRecDepth 100000 in
theorem open_note {H : Type} {enc : TypeId × Value → H} {w : World} {r : Reach} {b0 : Nat} {held : Bool} {v : Value} {d : DataW H} {ps : List MemPlace}
    (hval : Value.okWide Try.prog w r b0 33 v) (hd : DataW.Trod enc Try.prog w 0 (fun _ => true) held 33 v d ps) :
    ∃ (kind from_ round : Int) (heard : BitVec 128) (L : List Nt) (nb : Option Addr) (nc : Nat), v = .agg #[.int .i64 kind, .int .i64 from_, .int .i64 round, .int .u32 (Ear.wd heard 0), .int .u32 (Ear.wd heard 1), .int .u32 (Ear.wd heard 2), .int .u32 (Ear.wd heard 3), .slice nb L.length nc] ∧
      LiesV (ntsV L) nb w ∧ (∀ x ∈ L, x.wf) ∧ (Lit.int .i64 kind).wf = true ∧ (Lit.int .i64 from_).wf = true ∧ (Lit.int .i64 round).wf = true := by
  obtain ⟨cs, rfl, hsz⟩ := okWide_struct Try.underlying33 hval
  rw [cellsW8] at hsz
  obtain ⟨l⟩ := cs
  obtain ⟨c0, c1, c2, c3, c4, c5, c6, c7, rfl⟩ := list8w l hsz
  obtain ⟨fuel, hf⟩ := hd
  obtain ⟨ys, n', hn', hy, hlen, hyl, hfl⟩ := DataW.trod_struct Try.underlying33 hf
  obtain ⟨y0, y1, y2, y3, y4, rfl⟩ := list5w ys hyl
  have f0 := hfl 0 _ rfl
  have f1 := hfl 1 _ rfl
  have f2 := hfl 2 _ rfl
  have f3 := hfl 3 _ rfl
  have f4 := hfl 4 _ rfl
  change DataW.trod enc Try.prog w 0 (fun _ => true) held n' 3 ((List.drop 0 [c0, c1, c2, c3, c4, c5, c6, c7]).take (Try.prog.cellsOf 3)) = some y0 at f0
  change DataW.trod enc Try.prog w 0 (fun _ => true) held n' 3 ((List.drop 1 [c0, c1, c2, c3, c4, c5, c6, c7]).take (Try.prog.cellsOf 3)) = some y1 at f1
  change DataW.trod enc Try.prog w 0 (fun _ => true) held n' 3 ((List.drop 2 [c0, c1, c2, c3, c4, c5, c6, c7]).take (Try.prog.cellsOf 3)) = some y2 at f2
  change DataW.trod enc Try.prog w 0 (fun _ => true) held n' 30 ((List.drop 3 [c0, c1, c2, c3, c4, c5, c6, c7]).take (Try.prog.cellsOf 30)) = some y3 at f3
  change DataW.trod enc Try.prog w 0 (fun _ => true) held n' 31 ((List.drop 7 [c0, c1, c2, c3, c4, c5, c6, c7]).take (Try.prog.cellsOf 31)) = some y4 at f4
  rw [cellsI] at f0 f1 f2
  rw [cellsS] at f3
  rw [cellsNS] at f4
  simp only [List.drop_zero, List.drop_succ_cons, List.take_succ_cons, List.take_zero, List.getElem?_cons_zero, List.getElem?_cons_succ] at f0 f1 f2 f3 f4
  obtain ⟨x0, e0, -, w0⟩ := DataW.trod_int Try.underlying3 f0
  obtain ⟨x1, e1, -, w1⟩ := DataW.trod_int Try.underlying3 f1
  obtain ⟨x2, e2, -, w2⟩ := DataW.trod_int Try.underlying3 f2
  obtain ⟨z0, z1, z2, z3, mm, hxx, hy0, hy1, hy2, hy3⟩ := trod_array4 Try.underlying30 cellsW f3
  obtain ⟨u0, e3, -, v0⟩ := DataW.trod_int Try.underlying28 hy0
  obtain ⟨u1, e4, -, v1⟩ := DataW.trod_int Try.underlying28 hy1
  obtain ⟨u2, e5, -, v2⟩ := DataW.trod_int Try.underlying28 hy2
  obtain ⟨u3, e6, -, v3⟩ := DataW.trod_int Try.underlying28 hy3
  have e7 : ∃ a n c, c7 = Value.slice a n c := by
    rcases open_slice Try.underlying31 f4 with ⟨hcs, -⟩ | ⟨a, len, cap, m, n, D, Pl, hcs, -⟩
    · simp only [List.cons.injEq, and_true] at hcs
      exact ⟨_, _, _, hcs⟩
    · simp only [List.cons.injEq, and_true] at hcs
      exact ⟨_, _, _, hcs⟩
  obtain ⟨a0, len0, cap0, rfl⟩ := e7
  simp only [List.cons.injEq, and_true] at e0 e1 e2 e3 e4 e5 e6
  subst e0 e1 e2 e3 e4 e5 e6
  obtain ⟨hv, h0, h1, h2, h3⟩ := Ear.wd_of_words u0 u1 u2 u3 (u32_of_wf v0) (u32_of_wf v1) (u32_of_wf v2) (u32_of_wf v3)
  obtain ⟨L, nb, nc, hs, hl, -, hwf⟩ := open_noticesS (a0 := a0) (len0 := len0) (cap0 := cap0) (d := y4.1) (ps := y4.2) ⟨n', f4⟩
  exact ⟨x0, x1, x2, hv, L, nb, nc, by rw [← hs, h0, h1, h2, h3], hl, hwf, w0, w1, w2⟩
end Go.Proofs.Ytklfkfnckdeifaa
