/-
  What alive and the law BookOrder come to.
-/
import Derived.Test.YtfkgllbooopfdaaBookJ
namespace Go.Proofs.Ytfkgllbooopfdaa
set_option linter.unusedSimpArgs false
set_option linter.unusedVariables false
open Go.RowKit
set_option maxRecDepth 100000 in
set_option maxHeartbeats 2000000 in
theorem At_bk {w0 w : World} {bs : List Bk} {i : Nat} {b : Bk} {k : Nat} {x : Nt} (h : Books w0 w bs) (hi : bs[i]? = some b) (hx : b.L[k]? = some x) :
    Calls Try.prog 26 #[.pointer (some ⟨b.B, 0, none⟩), .int .i64 (k : Int)] w fun e w' => e = .returned (.tuple #[.agg #[.int .i64 (x).of_, .int .i64 (x).tag, .int .i64 (x).kind], .int .i64 0]) ∧ Below w.heap.size w w' := by
  have H := Lib.hid (h.at_ i b hi).1
  obtain ⟨hk, hx⟩ := List.getElem?_eq_some_iff.1 hx
  have HX := Lib.hid hx
  have hm := (h.at_ i b hi).2.2.most
  clear h hi hx
  go_enter Try.func26, Try.ntmps26
  go_wp2_with (go_at_call 32; (with_reducible refine Calls.mono (Size_at (H.out.below (by (repeat' (first | (with_reducible exact Below.refl _ _) | (with_reducible assumption) | (show Below 0 _ _; with_reducible refine Below.mono (by assumption) (Nat.zero_le _)) | (with_reducible refine below_setRow ?_ ?_ _) | (with_reducible refine Below.alloc ?_ ?_ _) | (with_reducible refine Below.drew ?_) | (with_reducible refine Below.setCell ?_ ?_ _) | (with_reducible refine Below.frame ?_ _) | (with_reducible exact Nat.le_refl _) | omega | (simp only [World.size_alloc, World.size_setCell, World.size_drew, setRow_size]; omega) | (simp; omega) | (simp; done)))))) ?_); rintro e w1 ⟨rfl, hb1⟩; have H1 := Lib.hid ((H.out.below (show Below w.heap.size w _ from by (repeat' (first | (with_reducible exact Below.refl _ _) | (with_reducible assumption) | (show Below 0 _ _; with_reducible refine Below.mono (by assumption) (Nat.zero_le _)) | (with_reducible refine below_setRow ?_ ?_ _) | (with_reducible refine Below.alloc ?_ ?_ _) | (with_reducible refine Below.drew ?_) | (with_reducible refine Below.setCell ?_ ?_ _) | (with_reducible refine Below.frame ?_ _) | (with_reducible exact Nat.le_refl _) | omega | (simp only [World.size_alloc, World.size_setCell, World.size_drew, setRow_size]; omega) | (simp; omega) | (simp; done))))).below hb1); obtain ⟨q0, q1, q2⟩ := nt_cells H1.out.own k hk; rw [HX.out] at q0 q1 q2; have hbk_c := H1.out.blk.cell; have hB' : Below w.heap.size w w1 := Below.trans (by (repeat' (first | (with_reducible exact Below.refl _ _) | (with_reducible assumption) | (show Below 0 _ _; with_reducible refine Below.mono (by assumption) (Nat.zero_le _)) | (with_reducible refine below_setRow ?_ ?_ _) | (with_reducible refine Below.alloc ?_ ?_ _) | (with_reducible refine Below.drew ?_) | (with_reducible refine Below.setCell ?_ ?_ _) | (with_reducible refine Below.frame ?_ _) | (with_reducible exact Nat.le_refl _) | omega | (simp only [World.size_alloc, World.size_setCell, World.size_drew, setRow_size]; omega) | (simp; omega) | (simp; done)))) (hb1.mono (by (try simp only [World.size_alloc, World.size_setCell, World.size_drew, setRow_size]); omega)); have hr' := (show Ear.Blk w1 (w.heap.size) _ _ from by (repeat' (first | (show Ear.Blk _ _ _ _; with_reducible assumption) | (with_reducible exact Ear.Blk.new _ _ _) | (with_reducible refine Ear.Blk.new' ?_; (simp only [World.size_alloc, World.size_setCell, World.size_drew, setRow_size]; done)) | (with_reducible apply Ear.Blk.alloc) | (with_reducible apply Ear.Blk.drew) | (with_reducible apply Ear.Blk.setC) | (with_reducible apply Ear.Blk.setC' (e := by omega)) | (with_reducible apply Ear.Blk.rowC (e := by first | rfl | omega)) | (with_reducible apply Ear.Blk.otherRow) | (with_reducible apply Ear.Blk.other) | (with_reducible apply Ear.Blk.below (hb := hb1)) | (show _ ≠ _; (try simp only [World.size_alloc, World.size_setCell, World.size_drew, setRow_size]); omega) | (show _ < _; (try simp only [World.size_alloc, World.size_setCell, World.size_drew, setRow_size]); omega)))); clear hb1; (try clear hr_l); (try clear hr_c); (try clear hr_f); (try clear hr); have hr := hr'; clear hr'; (try simp only [List.set_cons_zero, List.set_cons_succ] at hr); have hr_l := hr.lt; have hr_c := hr.cell; have hr_f := hr.frozen; (try clear hB hs); have hB := hB'; clear hB'; have hs := hB.size)
  refine Ear.bp_world (Ear.Sh w.heap.size w [(w.heap.size, _, _)]) (.cons (by (repeat' (first | (show Ear.Blk _ _ _ _; with_reducible assumption) | (with_reducible exact Ear.Blk.new _ _ _) | (with_reducible refine Ear.Blk.new' ?_; (simp only [World.size_alloc, World.size_setCell, World.size_drew, setRow_size]; done)) | (with_reducible apply Ear.Blk.alloc) | (with_reducible apply Ear.Blk.drew) | (with_reducible apply Ear.Blk.setC) | (with_reducible apply Ear.Blk.setC' (e := by omega)) | (with_reducible apply Ear.Blk.rowC (e := by first | rfl | omega)) | (with_reducible apply Ear.Blk.otherRow) | (with_reducible apply Ear.Blk.other) | (show _ ≠ _; (try simp only [World.size_alloc, World.size_setCell, World.size_drew, setRow_size]); omega) | (show _ < _; (try simp only [World.size_alloc, World.size_setCell, World.size_drew, setRow_size]); omega)))) (.nil (by (repeat' (first | (with_reducible exact Below.refl _ _) | (with_reducible assumption) | (show Below 0 _ _; with_reducible refine Below.mono (by assumption) (Nat.zero_le _)) | (with_reducible refine below_setRow ?_ ?_ _) | (with_reducible refine Below.alloc ?_ ?_ _) | (with_reducible refine Below.drew ?_) | (with_reducible refine Below.setCell ?_ ?_ _) | (with_reducible refine Below.frame ?_ _) | (with_reducible exact Nat.le_refl _) | omega | (simp only [World.size_alloc, World.size_setCell, World.size_drew, setRow_size]; omega) | (simp; omega) | (simp; done)))))) ?_; (try clear hr_l); (try clear hr_c); (try clear hr_f); (try clear hr); (try clear hB hs); rintro w2 ⟨hr, hB⟩; replace hB : Below w.heap.size w w2 := hB; have hs := hB.size; (try simp only [List.set_cons_zero, List.set_cons_succ] at hr); have hr_l := hr.lt; have hr_c := hr.cell; have hr_f := hr.frozen
  refine bodyPost_ret (v := .tuple #[.agg #[.int .i64 (x).of_, .int .i64 (x).tag, .int .i64 (x).kind], .int .i64 0]) (by simp [results, Try.results26, go_sem, *]) rfl ⟨rfl, hB⟩
theorem new3 : newB 3 1 4 = [⟨0, 0, 1⟩, ⟨1, 4, 1⟩, ⟨2, 0, 1⟩] := rfl
theorem new3_ok : newErr 3 1 4 = 0 := by decide
theorem New3 {w0 W : World} (h : Below w0.heap.size w0 W) : Calls Try.prog 9 #[.int .i64 3, .int .i64 1, .int .i64 4] W fun e W' =>
    ∃ b : Bk, e = .returned (.tuple #[.pointer (some ⟨b.B, 0, none⟩), .int .i64 0]) ∧ b.L = [⟨0, 0, 1⟩, ⟨1, 4, 1⟩, ⟨2, 0, 1⟩] ∧ Books w0 W' [b] := by
  refine (New_bk (Books.nil h) new3_ok).mono ?_
  rintro e W' ⟨b, he, hL, hB⟩
  exact ⟨b, he, by rw [hL, new3], hB⟩
theorem At3 {w0 w : World} {b : Bk} (h : Books w0 w [b]) (hL : b.L = [⟨0, 0, 1⟩, ⟨1, 4, 1⟩, ⟨2, 0, 1⟩]) : Calls Try.prog 26 #[.pointer (some ⟨b.B, 0, none⟩), .int .i64 1] w fun e w' => e = .returned (.tuple #[.agg #[.int .i64 1, .int .i64 4, .int .i64 1], .int .i64 0]) ∧ Below w.heap.size w w' :=
  At_bk (i := 0) (k := 1) (x := ⟨1, 4, 1⟩) h rfl (by rw [hL]; rfl)
theorem Size3 {w0 w : World} {b : Bk} (h : Books w0 w [b]) (hL : b.L = [⟨0, 0, 1⟩, ⟨1, 4, 1⟩, ⟨2, 0, 1⟩]) : Calls Try.prog 32 #[.pointer (some ⟨b.B, 0, none⟩)] w fun e w' => e = .returned (.int .i64 3) ∧ Below w.heap.size w w' := by
  have := Size_bk (i := 0) h rfl
  rw [hL] at this
  exact this
set_option maxRecDepth 100000 in
set_option maxHeartbeats 2000000 in
theorem alive_calls (w : World) : Calls Try.prog 11 #[] w fun e w' => e = .returned (.bool true) ∧ Below w.heap.size w w' := by
  go_enter Try.func11, Try.ntmps11
  go_wp2_with (first | (go_at_call 9; (with_reducible refine Calls.mono (New3 (w0 := w) (by (repeat' (first | (with_reducible exact Below.refl _ _) | (with_reducible assumption) | (show Below 0 _ _; with_reducible refine Below.mono (by assumption) (Nat.zero_le _)) | (with_reducible refine below_setRow ?_ ?_ _) | (with_reducible refine Below.alloc ?_ ?_ _) | (with_reducible refine Below.drew ?_) | (with_reducible refine Below.setCell ?_ ?_ _) | (with_reducible refine Below.frame ?_ _) | (with_reducible exact Nat.le_refl _) | omega | (simp only [World.size_alloc, World.size_setCell, World.size_drew, setRow_size]; omega) | (simp; omega) | (simp; done))))) ?_); rintro e w1 ⟨b, rfl, hL, hB1⟩; have H := Lib.hid hB1; have HL := Lib.hid hL; have hB := hB1.below; have hs := hB.size; clear hL hB1) | (go_at_call 26; (with_reducible refine Calls.mono (At3 H.out HL.out) ?_); rintro e w2 ⟨rfl, hb2⟩; have H := Lib.hid (H.out.call hb2); have hB' : Below w.heap.size w w2 := Below.trans (by (repeat' (first | (with_reducible exact Below.refl _ _) | (with_reducible assumption) | (show Below 0 _ _; with_reducible refine Below.mono (by assumption) (Nat.zero_le _)) | (with_reducible refine below_setRow ?_ ?_ _) | (with_reducible refine Below.alloc ?_ ?_ _) | (with_reducible refine Below.drew ?_) | (with_reducible refine Below.setCell ?_ ?_ _) | (with_reducible refine Below.frame ?_ _) | (with_reducible exact Nat.le_refl _) | omega | (simp only [World.size_alloc, World.size_setCell, World.size_drew, setRow_size]; omega) | (simp; omega) | (simp; done)))) (hb2.mono (by (try simp only [World.size_alloc, World.size_setCell, World.size_drew, setRow_size]); omega)); clear hb2; (try clear hB hs); have hB := hB'; clear hB'; have hs := hB.size) | (go_at_call 32; (with_reducible refine Calls.mono (Size3 (H.out.call (by (repeat' (first | (with_reducible exact Below.refl _ _) | (with_reducible assumption) | (show Below 0 _ _; with_reducible refine Below.mono (by assumption) (Nat.zero_le _)) | (with_reducible refine below_setRow ?_ ?_ _) | (with_reducible refine Below.alloc ?_ ?_ _) | (with_reducible refine Below.drew ?_) | (with_reducible refine Below.setCell ?_ ?_ _) | (with_reducible refine Below.frame ?_ _) | (with_reducible exact Nat.le_refl _) | omega | (simp only [World.size_alloc, World.size_setCell, World.size_drew, setRow_size]; omega) | (simp; omega) | (simp; done))))) HL.out) ?_); rintro e w3 ⟨rfl, hb3⟩; have hB' : Below w.heap.size w w3 := Below.trans (by (repeat' (first | (with_reducible exact Below.refl _ _) | (with_reducible assumption) | (show Below 0 _ _; with_reducible refine Below.mono (by assumption) (Nat.zero_le _)) | (with_reducible refine below_setRow ?_ ?_ _) | (with_reducible refine Below.alloc ?_ ?_ _) | (with_reducible refine Below.drew ?_) | (with_reducible refine Below.setCell ?_ ?_ _) | (with_reducible refine Below.frame ?_ _) | (with_reducible exact Nat.le_refl _) | omega | (simp only [World.size_alloc, World.size_setCell, World.size_drew, setRow_size]; omega) | (simp; omega) | (simp; done)))) (hb3.mono (by (try simp only [World.size_alloc, World.size_setCell, World.size_drew, setRow_size]); omega)); clear hb3; (try clear hB hs); have hB := hB'; clear hB'; have hs := hB.size))
  go_ret
  exact ⟨rfl, hB⟩
theorem takesN_one (L : List Nt) (x : Nt) : takesN L [x] = takeN L x := rfl
theorem Merge_x {w0 w : World} {bs : List Bk} {i : Nat} {b : Bk} (x : Nt) (base : Option Addr) (cap : Nat) (h : Books w0 w bs) (hi : bs[i]? = some b) (hl : LiesV (ntsV [x]) base w) (hne : ∀ B o, base = some ⟨B, o, none⟩ → B ≠ b.g) :
    Calls Try.prog 13 #[.pointer (some ⟨b.B, 0, none⟩), .slice base 1 cap] w fun e w' => (∃ v, e = .returned v) ∧ Books w0 w' (bs.set i { b with L := takeN b.L x }) := by
  cases hm : mergeOk b.L.length [x] with
  | true =>
    refine (Merge_good [x] base cap h hi hl (by simp) (fun _ => hne) hm).mono ?_
    rintro e w' ⟨he, hB, -⟩
    exact ⟨⟨_, he⟩, hB⟩
  | false =>
    refine (Merge_bad [x] base cap h hi hl (by simp) hm).mono ?_
    rintro e w' ⟨he, hb⟩
    refine ⟨⟨_, he⟩, ?_⟩
    have ht : takeN b.L x = b.L := by
      have := merge_one b.L x
      unfold mergeN at this
      rw [if_neg (by rw [hm]; decide)] at this
      exact this.symm
    rw [ht]
    have hil := (List.getElem?_eq_some_iff.1 hi).1
    have hself : bs.set i b = bs := by
      apply List.ext_getElem?
      intro j
      by_cases hij : i = j
      · subst hij; rw [List.getElem?_set_self hil, hi]
      · rw [List.getElem?_set_ne hij]
    show Books w0 w' (bs.set i b)
    rw [hself]
    exact h.call hb
theorem light_calls (base : Option Addr) (n cap : Nat) (w : World) : Calls Try.prog 10 #[.slice base n cap] w fun e w' => e = .returned (.bool (decide ((n : Int) ≤ 300))) ∧ w' = w := by
  go_enter Try.func10, Try.ntmps10
  go_wp2
  go_ret
  exact ⟨rfl, rfl⟩
theorem New_badB {n self tag c : Int} (w : World) (h : newErr n self tag = c) (hc : c ≠ 0) : Calls Try.prog 9 #[.int .i64 n, .int .i64 self, .int .i64 tag] w fun e w' => e = .returned (.tuple #[.pointer none, .int .i64 c]) ∧ Below w.heap.size w w' := by
  refine (BNew_calls n self tag w).mono ?_
  rintro e W' ⟨hb1, hbad, -⟩
  exact ⟨by rw [hbad (by rw [h]; exact hc), h], hb1⟩
end Go.Proofs.Ytfkgllbooopfdaa
