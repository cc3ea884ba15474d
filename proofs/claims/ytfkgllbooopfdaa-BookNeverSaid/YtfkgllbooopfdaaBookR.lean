/-
  What the law BookTwice comes to.
-/
import Derived.Test.YtfkgllbooopfdaaBookL
import Derived.Test.YtfkgllbooopfdaaBookQ
namespace Go.Proofs.Ytfkgllbooopfdaa
set_option linter.unusedSimpArgs false
set_option linter.unusedVariables false
open Go.RowKit
theorem Merge_no {w0 w : World} {bs : List Bk} (i : Nat) {B g cap : Nat} {L : List Nt} (l : List Nt) (base : Option Addr) (c : Nat) (h : Books w0 w bs) (hi : bs[i]? = some ⟨B, g, cap, L⟩) (hl : LiesV (ntsV l) base w) (hn : l.length ≤ 5000) (hne : 0 < l.length → ∀ B o, base = some ⟨B, o, none⟩ → B ≠ g) (hm : mergeOk L.length l = true) (hno : ∀ x ∈ l, takeB L x = false) :
    Calls Try.prog 13 #[.pointer (some ⟨B, 0, none⟩), .slice base l.length c] w fun e w' => e = .returned (.tuple #[.agg #[.int .u32 0, .int .u32 0, .int .u32 0, .int .u32 0], .int .i64 0]) ∧ Books w0 w' bs ∧ Ear.Keep (fun k => k = g) w w' := by
  have := Merge_good (b := ⟨B, g, cap, L⟩) l base c h hi hl hn hne hm
  refine this.mono ?_
  rintro e w' ⟨he, hB, hk⟩
  obtain ⟨h1, h2⟩ := no_takes l hno
  dsimp only at he hB hk
  rw [h1] at hB
  rw [h2, zeroW] at he
  refine ⟨he, ?_, hk⟩
  have hil := (List.getElem?_eq_some_iff.1 hi).1
  have hself : bs.set i ⟨B, g, cap, L⟩ = bs := by
    apply List.ext_getElem?
    intro j
    by_cases hij : i = j
    · subst hij; rw [List.getElem?_set_self hil, hi]
    · rw [List.getElem?_set_ne hij]
  rw [hself] at hB
  exact hB
theorem Merge_yes {w0 w : World} {bs : List Bk} (i : Nat) {B g cap : Nat} {L : List Nt} (l : List Nt) (base : Option Addr) (c : Nat) (h : Books w0 w bs) (hi : bs[i]? = some ⟨B, g, cap, L⟩) (hl : LiesV (ntsV l) base w) (hn : l.length ≤ 5000) (hne : 0 < l.length → ∀ B o, base = some ⟨B, o, none⟩ → B ≠ g) (hm : mergeOk L.length l = true) :
    Calls Try.prog 13 #[.pointer (some ⟨B, 0, none⟩), .slice base l.length c] w fun e w' => (∃ v, e = .returned v) ∧ Books w0 w' (bs.set i ⟨B, g, cap, takesN L l⟩) := by
  have := Merge_good (b := ⟨B, g, cap, L⟩) l base c h hi hl hn hne hm
  refine this.mono ?_
  rintro e w' ⟨he, hB, -⟩
  exact ⟨⟨_, he⟩, hB⟩
theorem Twin_L {w0 W : World} {bs : List Bk} (i : Nat) {B g cap : Nat} {L : List Nt} (h : Books w0 W bs) (hi : bs[i]? = some ⟨B, g, cap, L⟩) : Calls Try.prog 23 #[.pointer (some ⟨B, 0, none⟩)] W fun e W' =>
    ∃ B' g' cap', e = .returned (.pointer (some ⟨B', 0, none⟩)) ∧ Books w0 W' (bs ++ [⟨B', g', cap', L⟩]) := Twin_bk (b := ⟨B, g, cap, L⟩) h hi
theorem List_L {w0 W : World} {bs : List Bk} (i : Nat) {B g cap : Nat} {L : List Nt} (h : Books w0 W bs) (hi : bs[i]? = some ⟨B, g, cap, L⟩) : Calls Try.prog 18 #[.pointer (some ⟨B, 0, none⟩)] W fun e W' =>
    ∃ g' cap', e = .returned (.slice (some ⟨g', 0, none⟩) L.length cap') ∧ LiesV (ntsV L) (some ⟨g', 0, none⟩) W' ∧ g' ≠ g ∧ Below W.heap.size W W' := by
  obtain ⟨h1, h2, h3⟩ := h.at_ i _ hi
  refine (List_at h1 h3).mono ?_
  rintro e W' ⟨g', cap', he, hown, hb⟩
  refine ⟨g', cap', he, owns_liesV hown, ?_, hb⟩
  have h4 : g < W.heap.size := h1.g_lt.2
  have h5 := (hown.lt g' rfl).1
  omega
theorem Take_did {w0 W : World} {bs : List Bk} (i : Nat) {B g cap : Nat} {L : List Nt} {x : Nt} {d : Bool} (h : Books w0 W bs) (hi : bs[i]? = some ⟨B, g, cap, L⟩) (hd : takeB L x = d) :
    Calls Try.prog 12 #[.pointer (some ⟨B, 0, none⟩), .agg #[.int .i64 (x).of_, .int .i64 (x).tag, .int .i64 (x).kind]] W fun e W' => (∃ c, e = .returned (.tuple #[.bool d, .int .i64 c])) ∧ Books w0 W' (bs.set i ⟨B, g, cap, takeN L x⟩) ∧ Ear.Keep (fun k => k = g) W W' := by
  subst hd
  refine (Take_bk x h hi).mono ?_
  rintro e W' ⟨he, hB, hk⟩
  exact ⟨⟨_, he⟩, hB, hk⟩
attribute [local irreducible] takesN takeN newErr newB mergeOk takeB
set_option maxRecDepth 100000 in
set_option maxHeartbeats 2000000 in
theorem Twice_bad (n self tag : Int) (N : Nat) (lb : Option Addr) (lc : Nat) (w : World) (h : newErr n self tag ≠ 0) :
    Calls Try.prog 7 #[.int .i64 n, .int .i64 self, .int .i64 tag, .slice lb N lc] w fun e w' => e = .returned (.bool true) ∧ Below w.heap.size w w' := by
  obtain ⟨c, hc⟩ : ∃ c, newErr n self tag = c := ⟨_, rfl⟩
  have HE := Lib.hid hc
  rw [hc] at h
  have HC := Lib.hid h
  have e3 : (c != 0) = true := by rw [bne_iff_ne]; exact h
  clear hc h
  go_enter Try.func7, Try.ntmps7
  go_wp2_with (first | (go_at_call 9; (with_reducible refine Calls.mono (New_badB _ HE.out HC.out) ?_); rintro e w1 ⟨rfl, hb1⟩; have hB' : Below w.heap.size w w1 := Below.trans (by (repeat' (first | (with_reducible exact Below.refl _ _) | (with_reducible assumption) | (show Below 0 _ _; with_reducible refine Below.mono (by assumption) (Nat.zero_le _)) | (with_reducible refine below_setRow ?_ ?_ _) | (with_reducible refine Below.alloc ?_ ?_ _) | (with_reducible refine Below.drew ?_) | (with_reducible refine Below.setCell ?_ ?_ _) | (with_reducible refine Below.frame ?_ _) | (with_reducible exact Nat.le_refl _) | omega | (simp only [World.size_alloc, World.size_setCell, World.size_drew, setRow_size]; omega) | (simp; omega) | (simp; done)))) (hb1.mono (by (try simp only [World.size_alloc, World.size_setCell, World.size_drew, setRow_size]); omega)); clear hb1; (try clear hB hs); have hB := hB'; clear hB'; have hs := hB.size) | (go_at_call 11; (with_reducible refine Calls.mono (alive_calls _) ?_); rintro e w3 ⟨rfl, hb3⟩; have hB' : Below w.heap.size w w3 := Below.trans (by (repeat' (first | (with_reducible exact Below.refl _ _) | (with_reducible assumption) | (show Below 0 _ _; with_reducible refine Below.mono (by assumption) (Nat.zero_le _)) | (with_reducible refine below_setRow ?_ ?_ _) | (with_reducible refine Below.alloc ?_ ?_ _) | (with_reducible refine Below.drew ?_) | (with_reducible refine Below.setCell ?_ ?_ _) | (with_reducible refine Below.frame ?_ _) | (with_reducible exact Nat.le_refl _) | omega | (simp only [World.size_alloc, World.size_setCell, World.size_drew, setRow_size]; omega) | (simp; omega) | (simp; done)))) (hb3.mono (by (try simp only [World.size_alloc, World.size_setCell, World.size_drew, setRow_size]); omega)); clear hb3; (try clear hB hs); have hB := hB'; clear hB'; have hs := hB.size))
  go_ret
  exact ⟨rfl, hB⟩
set_option maxRecDepth 100000 in
set_option maxHeartbeats 2000000 in
theorem Twice_long (n self tag : Int) (N : Nat) (lb : Option Addr) (lc : Nat) (w : World) (h : newErr n self tag = 0) (hl : 300 < N) :
    Calls Try.prog 7 #[.int .i64 n, .int .i64 self, .int .i64 tag, .slice lb N lc] w fun e w' => e = .returned (.bool true) ∧ Below w.heap.size w w' := by
  have HE := Lib.hid h
  have HLI : Hid (decide ((N : Int) ≤ 300) = false) := decide_eq_false (by omega)
  clear h hl
  go_enter Try.func7, Try.ntmps7
  go_wp2_with (first | (go_at_call 9; (with_reducible refine Calls.mono (New_any HE.out _) ?_); rintro e w1 ⟨B1, rfl, hb1⟩; have hB' : Below w.heap.size w w1 := Below.trans (by (repeat' (first | (with_reducible exact Below.refl _ _) | (with_reducible assumption) | (show Below 0 _ _; with_reducible refine Below.mono (by assumption) (Nat.zero_le _)) | (with_reducible refine below_setRow ?_ ?_ _) | (with_reducible refine Below.alloc ?_ ?_ _) | (with_reducible refine Below.drew ?_) | (with_reducible refine Below.setCell ?_ ?_ _) | (with_reducible refine Below.frame ?_ _) | (with_reducible exact Nat.le_refl _) | omega | (simp only [World.size_alloc, World.size_setCell, World.size_drew, setRow_size]; omega) | (simp; omega) | (simp; done)))) (hb1.mono (by (try simp only [World.size_alloc, World.size_setCell, World.size_drew, setRow_size]); omega)); clear hb1; (try clear hB hs); have hB := hB'; clear hB'; have hs := hB.size) | (go_at_call 10; refine (light_eq HLI.out _).mono ?_; rintro e w' ⟨rfl, rfl⟩) | (go_at_call 11; (with_reducible refine Calls.mono (alive_calls _) ?_); rintro e w3 ⟨rfl, hb3⟩; have hB' : Below w.heap.size w w3 := Below.trans (by (repeat' (first | (with_reducible exact Below.refl _ _) | (with_reducible assumption) | (show Below 0 _ _; with_reducible refine Below.mono (by assumption) (Nat.zero_le _)) | (with_reducible refine below_setRow ?_ ?_ _) | (with_reducible refine Below.alloc ?_ ?_ _) | (with_reducible refine Below.drew ?_) | (with_reducible refine Below.setCell ?_ ?_ _) | (with_reducible refine Below.frame ?_ _) | (with_reducible exact Nat.le_refl _) | omega | (simp only [World.size_alloc, World.size_setCell, World.size_drew, setRow_size]; omega) | (simp; omega) | (simp; done)))) (hb3.mono (by (try simp only [World.size_alloc, World.size_setCell, World.size_drew, setRow_size]); omega)); clear hb3; (try clear hB hs); have hB := hB'; clear hB'; have hs := hB.size))
  go_ret
  exact ⟨rfl, hB⟩
theorem arg_ne {l : List Nt} {lb : Option Addr} {w : World} {g : Nat} (hL : LiesV (ntsV l) lb w) (hg : w.heap.size ≤ g) : 0 < l.length → ∀ B o, lb = some ⟨B, o, none⟩ → B ≠ g := by
  intro hp B o he e
  have hlen := ntsV_len l
  obtain ⟨B2, o2, he2, hB2, -⟩ := hL 0 (by omega)
  rw [he] at he2
  simp only [Option.some.injEq, Addr.mk.injEq] at he2
  obtain ⟨rfl, -, -⟩ := he2
  omega
end Go.Proofs.Ytfkgllbooopfdaa
