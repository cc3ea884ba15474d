/-
  What the law BookOrder comes to.
-/
import Derived.Test.YtfkgllbooopfdaaBookK
namespace Go.Proofs.Ytfkgllbooopfdaa
set_option linter.unusedSimpArgs false
set_option linter.unusedVariables false
open Go.RowKit
theorem New_L {n self tag : Int} {L0 : List Nt} {w0 W : World} {bs : List Bk} (h : Books w0 W bs) (hn : newErr n self tag = 0) (hL : newB n self tag = L0) :
    Calls Try.prog 9 #[.int .i64 n, .int .i64 self, .int .i64 tag] W fun e W' =>
      ∃ B g cap, e = .returned (.tuple #[.pointer (some ⟨B, 0, none⟩), .int .i64 0]) ∧ Books w0 W' (bs ++ [⟨B, g, cap, L0⟩]) := by
  subst hL
  refine (New_bk h hn).mono ?_
  rintro e W' ⟨⟨B, g, cap, L⟩, he, rfl, hB⟩
  exact ⟨B, g, cap, he, hB⟩
theorem light_eq {base : Option Addr} {n cap : Nat} {b : Bool} (h : decide ((n : Int) ≤ 300) = b) (w : World) : Calls Try.prog 10 #[.slice base n cap] w fun e w' => e = .returned (.bool b) ∧ w' = w := by
  subst h; exact light_calls base n cap w
theorem Take_at {w0 W : World} {bs : List Bk} (i : Nat) {B g cap : Nat} {L : List Nt} {x : Nt} (h : Books w0 W bs) (hi : bs[i]? = some ⟨B, g, cap, L⟩) :
    Calls Try.prog 12 #[.pointer (some ⟨B, 0, none⟩), .agg #[.int .i64 (x).of_, .int .i64 (x).tag, .int .i64 (x).kind]] W fun e W' => (∃ v, e = .returned v) ∧ Books w0 W' (bs.set i ⟨B, g, cap, takeN L x⟩) := by
  refine (Take_bk x h hi).mono ?_
  rintro e W' ⟨he, hB, -⟩
  exact ⟨⟨_, he⟩, hB⟩
theorem lies_sub {l : List Nt} {lb : Option Addr} {w w' : World} (hL : LiesV (ntsV l) lb w) (hB : Below w.heap.size w w') (q : Nat) (hq : q < l.length) :
    LiesV (ntsV [l[q]]) (Option.map (fun x => x.add (q * 3)) lb) w' ∧ ∀ B o, Option.map (fun x => x.add (q * 3)) lb = some ⟨B, o, none⟩ → B < w.heap.size := by
  obtain ⟨B, o, rfl, hl, c0, c1, c2⟩ := nts_get q hq hL hB (Nat.le_refl _)
  have hadd : (⟨B, o, none⟩ : Addr).add (q * 3) = ⟨B, o + q * 3, none⟩ := by unfold Addr.add; by_cases h : q * 3 = 0 <;> simp [h]
  simp only [Option.map_some, hadd]
  refine ⟨fun i hi => ⟨B, o + q * 3, rfl, hl, ?_⟩, fun B' o' he => ?_⟩
  · have h3 : i < 3 := by rw [ntsV_len] at hi; simpa using hi
    rcases (by omega : i = 0 ∨ i = 1 ∨ i = 2) with rfl | rfl | rfl
    · exact c0
    · exact c1
    · exact c2
  · simp only [Option.some.injEq, Addr.mk.injEq] at he
    obtain ⟨rfl, -, -⟩ := he
    have hlen := ntsV_len l
    obtain ⟨B2, o2, he2, hB2, -⟩ := hL 0 (by omega)
    simp only [Option.some.injEq, Addr.mk.injEq] at he2
    obtain ⟨rfl, -, -⟩ := he2
    exact hB2
theorem Merge_at {w0 w : World} {bs : List Bk} (i : Nat) {B g cap : Nat} {L : List Nt} {x : Nt} {base : Option Addr} {c : Nat} (h : Books w0 w bs) (hi : bs[i]? = some ⟨B, g, cap, L⟩) (hl : LiesV (ntsV [x]) base w) (hne : ∀ B o, base = some ⟨B, o, none⟩ → B ≠ g) :
    Calls Try.prog 13 #[.pointer (some ⟨B, 0, none⟩), .slice base 1 c] w fun e w' => (∃ v, e = .returned v) ∧ Books w0 w' (bs.set i ⟨B, g, cap, takeN L x⟩) := by
  have := Merge_x (b := ⟨B, g, cap, L⟩) x base c h hi hl hne
  exact this
theorem Same_at {w0 W : World} {bs : List Bk} (i j : Nat) {B g cap C g' cap' : Nat} {L M : List Nt} (h : Books w0 W bs) (hi : bs[i]? = some ⟨B, g, cap, L⟩) (hj : bs[j]? = some ⟨C, g', cap', M⟩) (hL : L = M) :
    Calls Try.prog 14 #[.pointer (some ⟨B, 0, none⟩), .pointer (some ⟨C, 0, none⟩)] W fun e W' => e = .returned (.bool true) ∧ Below W.heap.size W W' := by
  have := Same_bk (b := ⟨B, g, cap, L⟩) (c := ⟨C, g', cap', M⟩) h hi hj hL
  exact this
attribute [local irreducible] takesN takeN newErr newB
set_option maxRecDepth 100000 in
set_option maxHeartbeats 2000000 in
theorem Order_bad (n self tag by_ : Int) (l : List Nt) (lb : Option Addr) (lc : Nat) (w : World) (h : newErr n self tag ≠ 0) :
    Calls Try.prog 3 #[.int .i64 n, .int .i64 self, .int .i64 tag, .slice lb l.length lc, .int .i64 by_] w fun e w' => e = .returned (.bool true) ∧ Below w.heap.size w w' := by
  obtain ⟨c, hc⟩ : ∃ c, newErr n self tag = c := ⟨_, rfl⟩
  have HE := Lib.hid hc
  rw [hc] at h
  have HC := Lib.hid h
  have e3 : (c != 0) = true := by rw [bne_iff_ne]; exact h
  clear hc h
  go_enter Try.func3, Try.ntmps3
  go_wp2_with (first | (go_at_call 9; (with_reducible refine Calls.mono (New_badB _ HE.out HC.out) ?_); rintro e w1 ⟨rfl, hb1⟩; have hB' : Below w.heap.size w w1 := Below.trans (by (repeat' (first | (with_reducible exact Below.refl _ _) | (with_reducible assumption) | (show Below 0 _ _; with_reducible refine Below.mono (by assumption) (Nat.zero_le _)) | (with_reducible refine below_setRow ?_ ?_ _) | (with_reducible refine Below.alloc ?_ ?_ _) | (with_reducible refine Below.drew ?_) | (with_reducible refine Below.setCell ?_ ?_ _) | (with_reducible refine Below.frame ?_ _) | (with_reducible exact Nat.le_refl _) | omega | (simp only [World.size_alloc, World.size_setCell, World.size_drew, setRow_size]; omega) | (simp; omega) | (simp; done)))) (hb1.mono (by (try simp only [World.size_alloc, World.size_setCell, World.size_drew, setRow_size]); omega)); clear hb1; (try clear hB hs); have hB := hB'; clear hB'; have hs := hB.size) | (go_at_call 11; (with_reducible refine Calls.mono (alive_calls _) ?_); rintro e w3 ⟨rfl, hb3⟩; have hB' : Below w.heap.size w w3 := Below.trans (by (repeat' (first | (with_reducible exact Below.refl _ _) | (with_reducible assumption) | (show Below 0 _ _; with_reducible refine Below.mono (by assumption) (Nat.zero_le _)) | (with_reducible refine below_setRow ?_ ?_ _) | (with_reducible refine Below.alloc ?_ ?_ _) | (with_reducible refine Below.drew ?_) | (with_reducible refine Below.setCell ?_ ?_ _) | (with_reducible refine Below.frame ?_ _) | (with_reducible exact Nat.le_refl _) | omega | (simp only [World.size_alloc, World.size_setCell, World.size_drew, setRow_size]; omega) | (simp; omega) | (simp; done)))) (hb3.mono (by (try simp only [World.size_alloc, World.size_setCell, World.size_drew, setRow_size]); omega)); clear hb3; (try clear hB hs); have hB := hB'; clear hB'; have hs := hB.size))
  go_ret
  exact ⟨rfl, hB⟩
theorem New_any {n self tag : Int} (h : newErr n self tag = 0) (w : World) : Calls Try.prog 9 #[.int .i64 n, .int .i64 self, .int .i64 tag] w fun e w' => ∃ B, e = .returned (.tuple #[.pointer (some ⟨B, 0, none⟩), .int .i64 0]) ∧ Below w.heap.size w w' := by
  refine (BNew_calls n self tag w).mono ?_
  rintro e W' ⟨hb, -, hg⟩
  obtain ⟨B, g, cap, he, -, -⟩ := hg h
  exact ⟨B, he, hb⟩
set_option maxRecDepth 100000 in
set_option maxHeartbeats 2000000 in
theorem Order_long (n self tag by_ : Int) (N : Nat) (lb : Option Addr) (lc : Nat) (w : World) (h : newErr n self tag = 0) (hl : 300 < N) :
    Calls Try.prog 3 #[.int .i64 n, .int .i64 self, .int .i64 tag, .slice lb N lc, .int .i64 by_] w fun e w' => e = .returned (.bool true) ∧ Below w.heap.size w w' := by
  have HE := Lib.hid h
  have HLI : Hid (decide ((N : Int) ≤ 300) = false) := decide_eq_false (by omega)
  clear hl
  clear h
  go_enter Try.func3, Try.ntmps3
  go_wp2_with (first | (go_at_call 9; (with_reducible refine Calls.mono (New_any HE.out _) ?_); rintro e w1 ⟨B1, rfl, hb1⟩; have hB' : Below w.heap.size w w1 := Below.trans (by (repeat' (first | (with_reducible exact Below.refl _ _) | (with_reducible assumption) | (show Below 0 _ _; with_reducible refine Below.mono (by assumption) (Nat.zero_le _)) | (with_reducible refine below_setRow ?_ ?_ _) | (with_reducible refine Below.alloc ?_ ?_ _) | (with_reducible refine Below.drew ?_) | (with_reducible refine Below.setCell ?_ ?_ _) | (with_reducible refine Below.frame ?_ _) | (with_reducible exact Nat.le_refl _) | omega | (simp only [World.size_alloc, World.size_setCell, World.size_drew, setRow_size]; omega) | (simp; omega) | (simp; done)))) (hb1.mono (by (try simp only [World.size_alloc, World.size_setCell, World.size_drew, setRow_size]); omega)); clear hb1; (try clear hB hs); have hB := hB'; clear hB'; have hs := hB.size) | (go_at_call 10; refine (light_eq HLI.out _).mono ?_; rintro e w' ⟨rfl, rfl⟩) | (go_at_call 11; (with_reducible refine Calls.mono (alive_calls _) ?_); rintro e w3 ⟨rfl, hb3⟩; have hB' : Below w.heap.size w w3 := Below.trans (by (repeat' (first | (with_reducible exact Below.refl _ _) | (with_reducible assumption) | (show Below 0 _ _; with_reducible refine Below.mono (by assumption) (Nat.zero_le _)) | (with_reducible refine below_setRow ?_ ?_ _) | (with_reducible refine Below.alloc ?_ ?_ _) | (with_reducible refine Below.drew ?_) | (with_reducible refine Below.setCell ?_ ?_ _) | (with_reducible refine Below.frame ?_ _) | (with_reducible exact Nat.le_refl _) | omega | (simp only [World.size_alloc, World.size_setCell, World.size_drew, setRow_size]; omega) | (simp; omega) | (simp; done)))) (hb3.mono (by (try simp only [World.size_alloc, World.size_setCell, World.size_drew, setRow_size]); omega)); clear hb3; (try clear hB hs); have hB := hB'; clear hB'; have hs := hB.size))
  go_ret
  exact ⟨rfl, hB⟩
set_option maxRecDepth 100000 in
set_option maxHeartbeats 2000000 in
theorem Order_nil (n self tag by_ : Int) (N : Nat) (lb : Option Addr) (lc : Nat) (w : World) (h : newErr n self tag = 0) (hl : N = 0) :
    Calls Try.prog 3 #[.int .i64 n, .int .i64 self, .int .i64 tag, .slice lb N lc, .int .i64 by_] w fun e w' => e = .returned (.bool true) ∧ Below w.heap.size w w' := by
  have HE := Lib.hid h
  have HLI : Hid (decide ((N : Int) ≤ 300) = true) := decide_eq_true (by omega)
  have h0 : ((N : Int) == 0) = true := beq_iff_eq.2 (by omega)
  clear hl
  clear h
  go_enter Try.func3, Try.ntmps3
  go_wp2_with (first | (go_at_call 9; (with_reducible refine Calls.mono (New_any HE.out _) ?_); rintro e w1 ⟨B1, rfl, hb1⟩; have hB' : Below w.heap.size w w1 := Below.trans (by (repeat' (first | (with_reducible exact Below.refl _ _) | (with_reducible assumption) | (show Below 0 _ _; with_reducible refine Below.mono (by assumption) (Nat.zero_le _)) | (with_reducible refine below_setRow ?_ ?_ _) | (with_reducible refine Below.alloc ?_ ?_ _) | (with_reducible refine Below.drew ?_) | (with_reducible refine Below.setCell ?_ ?_ _) | (with_reducible refine Below.frame ?_ _) | (with_reducible exact Nat.le_refl _) | omega | (simp only [World.size_alloc, World.size_setCell, World.size_drew, setRow_size]; omega) | (simp; omega) | (simp; done)))) (hb1.mono (by (try simp only [World.size_alloc, World.size_setCell, World.size_drew, setRow_size]); omega)); clear hb1; (try clear hB hs); have hB := hB'; clear hB'; have hs := hB.size) | (go_at_call 10; refine (light_eq HLI.out _).mono ?_; rintro e w' ⟨rfl, rfl⟩) | (go_at_call 11; (with_reducible refine Calls.mono (alive_calls _) ?_); rintro e w3 ⟨rfl, hb3⟩; have hB' : Below w.heap.size w w3 := Below.trans (by (repeat' (first | (with_reducible exact Below.refl _ _) | (with_reducible assumption) | (show Below 0 _ _; with_reducible refine Below.mono (by assumption) (Nat.zero_le _)) | (with_reducible refine below_setRow ?_ ?_ _) | (with_reducible refine Below.alloc ?_ ?_ _) | (with_reducible refine Below.drew ?_) | (with_reducible refine Below.setCell ?_ ?_ _) | (with_reducible refine Below.frame ?_ _) | (with_reducible exact Nat.le_refl _) | omega | (simp only [World.size_alloc, World.size_setCell, World.size_drew, setRow_size]; omega) | (simp; omega) | (simp; done)))) (hb3.mono (by (try simp only [World.size_alloc, World.size_setCell, World.size_drew, setRow_size]); omega)); clear hb3; (try clear hB hs); have hB := hB'; clear hB'; have hs := hB.size))
  go_ret
  exact ⟨rfl, hB⟩
set_option maxRecDepth 100000 in
set_option maxHeartbeats 8000000 in
theorem Order_good (n self tag by_ : Int) (l : List Nt) (lb : Option Addr) (lc : Nat) (w : World) (h : newErr n self tag = 0) (hl1 : 1 ≤ l.length) (hl2 : l.length ≤ 300) (hL : LiesV (ntsV l) lb w) (hcap : l.length ≤ lc) (hby : (Lit.int .i64 by_).wf = true) :
    Calls Try.prog 3 #[.int .i64 n, .int .i64 self, .int .i64 tag, .slice lb l.length lc, .int .i64 by_] w fun e w' => e = .returned (.bool true) ∧ Below w.heap.size w w' := by
  have HE := Lib.hid h
  have HL := Lib.hid hL
  have HOK := Lib.hid (newB_ok h)
  obtain ⟨L0, hL0⟩ : ∃ L0, newB n self tag = L0 := ⟨_, rfl⟩
  have HL0 := Lib.hid hL0
  rw [hL0] at HOK
  have HBY := Lib.hid (bounds_i64 hby)
  have HLI : Hid (decide ((l.length : Int) ≤ 300) = true) := decide_eq_true (by omega)
  have h0 : ((l.length : Int) == 0) = false := beq_eq_false_iff_ne.2 (by omega)
  have hb1 : -((l.length : Nat) : Int) < by_.tmod (l.length : Nat) ∧ by_.tmod (l.length : Nat) < (l.length : Nat) :=
    ⟨Int.lt_tmod_of_pos by_ (by omega), Int.tmod_lt_of_pos by_ (by omega)⟩
  obtain ⟨hlo, hhi⟩ := hb1
  obtain ⟨r, hr, hat⟩ : ∃ r : Nat, r < l.length ∧ (r : Int) = if by_.tmod (l.length : Nat) < 0 then by_.tmod (l.length : Nat) + (l.length : Nat) else by_.tmod (l.length : Nat) := by
    split
    · exact ⟨(by_.tmod (l.length : Nat) + (l.length : Nat)).toNat, by omega, by omega⟩
    · exact ⟨(by_.tmod (l.length : Nat)).toNat, by omega, by omega⟩
  have HAT := Lib.hid hat
  clear h hL hL0 hat hby
  by_cases hneg : by_.tmod (l.length : Nat) < 0
  all_goals
    have hq := HAT.out
    first | rw [if_pos hneg] at hq | rw [if_neg hneg] at hq
    have HQ := Lib.hid hq
    clear hq
    go_enter Try.func3, Try.ntmps3
    go_wp2_with (first | (go_at_call 9; (with_reducible refine Calls.mono (New_L H2.out HE.out HL0.out) ?_); rintro e w3 ⟨B3, g3, p3, rfl, hb⟩; simp only [List.nil_append, List.cons_append] at hb; have H3 := Lib.hid hb; clear hb H2) | (go_at_call 9; (with_reducible refine Calls.mono (New_L H1.out HE.out HL0.out) ?_); rintro e w2 ⟨B2, g2, p2, rfl, hb⟩; simp only [List.nil_append, List.cons_append] at hb; have H2 := Lib.hid hb; clear hb H1) | (go_at_call 9; (with_reducible refine Calls.mono (New_L (Books.nil (w0 := w) (by (repeat' (first | (with_reducible exact Below.refl _ _) | (with_reducible assumption) | (show Below 0 _ _; with_reducible refine Below.mono (by assumption) (Nat.zero_le _)) | (with_reducible refine below_setRow ?_ ?_ _) | (with_reducible refine Below.alloc ?_ ?_ _) | (with_reducible refine Below.drew ?_) | (with_reducible refine Below.setCell ?_ ?_ _) | (with_reducible refine Below.frame ?_ _) | (with_reducible exact Nat.le_refl _) | omega | (simp only [World.size_alloc, World.size_setCell, World.size_drew, setRow_size]; omega) | (simp; omega) | (simp; done))))) HE.out HL0.out) ?_); rintro e w1 ⟨B1, g1, p1, rfl, hb⟩; simp only [List.nil_append] at hb; have H1 := Lib.hid hb; clear hb) | (go_at_call 10; refine (light_eq HLI.out _).mono ?_; rintro e w' ⟨rfl, rfl⟩))
    rw [← HQ.out]
    (try clear hneg); (try clear hlo hhi)
    go_loopw [18] (fun i wr => ∃ k : Nat, k ≤ l.length ∧ i = .int .i64 k ∧ Hid (Books w wr [⟨B1, g1, p1, takesN L0 (l.take k)⟩, ⟨B2, g2, p2, takesN L0 ((rotL l r).take k)⟩, ⟨B3, g3, p3, L0⟩])) (fun i _ => l.length - (intOf i).toNat)
    case atStart =>
      refine ⟨0, by omega, rfl, ?_⟩
      have e1 : takesN L0 (l.take 0) = L0 := by rw [List.take_zero]; unfold takesN; rfl
      have e2 : takesN L0 ((rotL l r).take 0) = L0 := by rw [List.take_zero]; unfold takesN; rfl
      rw [e1, e2]
      exact H3
    case round =>
      clear H3
      obtain ⟨k, hkn, rfl, H⟩ := hrel
      by_cases hlt : k < l.length
      · have hm : (k + r) % l.length < l.length := Nat.mod_lt _ (by omega)
        obtain ⟨m, hmE⟩ : ∃ m, (k + r) % l.length = m := ⟨_, rfl⟩
        have hmI : ((k : Int) + (r : Int)) % (l.length : Int) = (m : Int) := by rw [← hmE]; simp
        have HS1 := Lib.hid (takesN_succ L0 l k hlt)
        have HS2 := Lib.hid (takesN_succ L0 (rotL l r) k (by rw [rotL_len l r (by omega)]; exact hlt))
        have hrg := rotL_get l r k hr hlt
        rw [hmE] at hm
        simp only [hmE] at hrg
        have HRG := Lib.hid hrg
        have HW := Lib.hid (wrap_bk k l.length hlt (by omega))
        obtain ⟨Bl, o, rfl, hBl, a0, a1, a2⟩ := nts_get k hlt HL.out H.out.below (Nat.le_refl _)
        obtain ⟨x, hx⟩ : ∃ x, l[k] = x := ⟨_, rfl⟩
        obtain ⟨y, hy⟩ : ∃ y, l[m] = y := ⟨_, rfl⟩
        have HX := Lib.hid hx
        have HY := Lib.hid hy
        have HMM := Lib.hid hm
        rw [hx] at a0 a1 a2
        have hcell : ∀ W, Hid (Below w.heap.size w W) → Bl < W.heap.size ∧ W.cell? ⟨Bl, o + m * 3, none⟩ = some (.int .i64 y.of_) ∧ W.cell? ⟨Bl, o + m * 3 + 1, none⟩ = some (.int .i64 y.tag) ∧ W.cell? ⟨Bl, o + m * 3 + 2, none⟩ = some (.int .i64 y.kind) := fun W hW => by
          obtain ⟨B', o', he, hB', c0, c1, c2⟩ := nts_get m HMM.out HL.out hW.out (Nat.le_refl _)
          simp only [Option.some.injEq, Addr.mk.injEq] at he
          obtain ⟨rfl, rfl, -⟩ := he
          rw [hy] at c0 c1 c2
          exact ⟨hB', c0, c1, c2⟩
        have HCELL := Lib.hid hcell
        clear hx hcell
        go_wp2_with (first | (go_at_call 12; (with_reducible refine Calls.mono (Take_at 0 H.out rfl) ?_); rintro e w5 ⟨⟨u, rfl⟩, hb⟩; simp only [List.set_cons_zero] at hb; have H5 := Lib.hid hb; obtain ⟨c_l, c0, c1, c2⟩ := HCELL.out _ (Lib.hid hb.below); clear hb H a0 a1 a2) | (go_at_call 12; (with_reducible refine Calls.mono (Take_at 1 H5.out rfl) ?_); rintro e w6 ⟨⟨u, rfl⟩, hb⟩; simp only [List.set_cons_zero, List.set_cons_succ] at hb; have H6 := Lib.hid hb; clear hb H5 c_l c0 c1 c2))
        go_roundw
        case rel =>
          refine ⟨k + 1, hlt, by go_num, ?_⟩
          rw [HS1.out, HS2.out, HRG.out, HX.out, HY.out]
          exact H6
        case measure => simp [intOf]; omega
      · have hkl : k = l.length := by omega
        subst hkl
        have e1 : l.take l.length = l := List.take_length
        have e2 : (rotL l r).take l.length = rotL l r := by rw [List.take_of_length_le]; rw [rotL_len l r (by omega)]; exact Nat.le_refl _
        rw [e1, e2] at H
        clear e1 e2
        go_wp2
        go_loopw [19] (fun i wr => ∃ j : Nat, j ≤ l.length ∧ i = .int .i64 ((l.length : Int) - 1 - (j : Int)) ∧ Hid (Books w wr [⟨B1, g1, p1, takesN L0 l⟩, ⟨B2, g2, p2, takesN L0 (rotL l r)⟩, ⟨B3, g3, p3, takesN L0 (l.reverse.take j)⟩])) (fun i _ => (intOf i + 1).toNat)
        case atStart =>
          refine ⟨0, by omega, by simp, ?_⟩
          have e3 : takesN L0 (l.reverse.take 0) = L0 := by rw [List.take_zero]; unfold takesN; rfl
          rw [e3]
          exact H
        case round =>
          clear H
          obtain ⟨j, hj, rfl, H⟩ := hrel
          by_cases hlt : j < l.length
          · obtain ⟨q, hq⟩ : ∃ q, l.length - 1 - j = q := ⟨_, rfl⟩
            have hqI : (l.length : Int) - 1 - (j : Int) = (q : Int) := by omega
            have hql : q < l.length := by omega
            rw [hqI]
            have hls := lies_sub HL.out H.out.below q hql
            have hg3 : w.heap.size ≤ g3 := (H.out.at_ 2 _ rfl).1.g_lt.1
            have HLS := Lib.hid hls.1
            have HNE := Lib.hid (show ∀ B o, Option.map (fun x => x.add (q * 3)) lb = some ⟨B, o, none⟩ → B ≠ g3 from fun B o he e => by have := hls.2 B o he; omega)
            have HS3 := Lib.hid (show takesN L0 (l.reverse.take (j + 1)) = takeN (takesN L0 (l.reverse.take j)) (l[q]'hql) from by
              rw [rev_take l j hlt, takesN_snoc]
              simp only [hq])
            clear hls
            go_wp2_with (go_at_call 13; (with_reducible refine Calls.mono (Merge_at 2 H.out rfl HLS.out HNE.out) ?_); rintro e w7 ⟨⟨u, rfl⟩, hb⟩; simp only [List.set_cons_zero, List.set_cons_succ] at hb; have H7 := Lib.hid hb; clear hb)
            go_roundw
            case rel =>
              refine ⟨j + 1, hlt, by first | go_num | (simp; omega), ?_⟩
              rw [HS3.out]
              exact H7
            case measure => first | (simp [intOf]; done) | (simp [intOf]; omega)
          · have hjl : j = l.length := by omega
            subst hjl
            have hi1 : (l.length : Int) - 1 - (l.length : Int) = -1 := by omega
            rw [hi1]
            have e1 : l.reverse.take l.length = l.reverse := by rw [List.take_of_length_le]; rw [List.length_reverse]; exact Nat.le_refl _
            rw [e1] at H
            have hos := order_same HOK.out l r
            have HAB := Lib.hid hos.1
            have HBA := Lib.hid hos.1.symm
            have HAC := Lib.hid hos.2
            clear e1 hos
            go_wp2_with (first | (go_at_call 11; (with_reducible refine Calls.mono (alive_calls _) ?_); rintro e w8 ⟨rfl, hb8⟩; have H := Lib.hid (H.out.call hb8); clear hb8) | (go_at_call 14; (with_reducible refine Calls.mono (Same_at 0 1 H.out rfl rfl HAB.out) ?_); rintro e w8 ⟨rfl, hb8⟩; have H := Lib.hid (H.out.call hb8); clear hb8) | (go_at_call 14; (with_reducible refine Calls.mono (Same_at 1 0 H.out rfl rfl HBA.out) ?_); rintro e w8 ⟨rfl, hb8⟩; have H := Lib.hid (H.out.call hb8); clear hb8) | (go_at_call 14; (with_reducible refine Calls.mono (Same_at 0 2 H.out rfl rfl HAC.out) ?_); rintro e w8 ⟨rfl, hb8⟩; have H := Lib.hid (H.out.call hb8); clear hb8))
            go_ret
            exact ⟨rfl, H.out.below⟩
theorem BookOrder_calls (n self tag by_ : Int) (l : List Nt) (lb : Option Addr) (lc : Nat) (w : World) (hL : LiesV (ntsV l) lb w) (hcap : l.length ≤ lc) (hby : (Lit.int .i64 by_).wf = true) :
    Calls Try.prog 3 #[.int .i64 n, .int .i64 self, .int .i64 tag, .slice lb l.length lc, .int .i64 by_] w fun e w' => e = .returned (.bool true) ∧ Below w.heap.size w w' := by
  by_cases h : newErr n self tag = 0
  · by_cases hl : 300 < l.length
    · exact Order_long n self tag by_ l.length lb lc w h hl
    · by_cases hl' : l.length = 0
      · exact Order_nil n self tag by_ l.length lb lc w h hl'
      · exact Order_good n self tag by_ l lb lc w h (by omega) (by omega) hL hcap hby
  · exact Order_bad n self tag by_ l lb lc w h
end Go.Proofs.Ytfkgllbooopfdaa
