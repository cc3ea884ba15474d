/-
  What Same, Take and New of books come to.
-/
import Derived.Test.YtfkgllbooopfdaaBookF
import Derived.Laws.MakeOwn
namespace Go.Proofs.Ytfkgllbooopfdaa
set_option linter.unusedSimpArgs false
set_option linter.unusedVariables false
open Go.RowKit
theorem Take_bk {w0 W : World} {bs : List Bk} {i : Nat} {b : Bk} (x : Nt) (h : Books w0 W bs) (hi : bs[i]? = some b) :
    Calls Try.prog 12 #[.pointer (some ⟨b.B, 0, none⟩), .agg #[.int .i64 (x).of_, .int .i64 (x).tag, .int .i64 (x).kind]] W fun e W' =>
      e = .returned (.tuple #[.bool (takeB b.L x), .int .i64 (errN b.L.length x)]) ∧ Books w0 W' (bs.set i { b with L := takeN b.L x }) ∧ Ear.Keep (fun k => k = b.g) W W' := by
  obtain ⟨h1, h2, h3⟩ := h.at_ i b hi
  refine (BTake_calls x h1).mono ?_
  rintro e W' ⟨he, hat, hk⟩
  exact ⟨he, h.turn hi hk hat (takeN_ok h3 x), hk⟩
theorem Size_bk {w0 W : World} {bs : List Bk} {i : Nat} {b : Bk} (h : Books w0 W bs) (hi : bs[i]? = some b) :
    Calls Try.prog 32 #[.pointer (some ⟨b.B, 0, none⟩)] W fun e W' => e = .returned (.int .i64 b.L.length) ∧ Below W.heap.size W W' := Size_at (h.at_ i b hi).1
theorem wrap_bk (k n : Nat) (h : k < n) (hn : n ≤ 5000) : wrap64 ((k : Int) + 1) = ((k + 1 : Nat) : Int) := by simp only [wrap64]; omega
theorem nts_get {L : List Nt} {base : Option Addr} {w w' : World} {n : Nat} (k : Nat) (hk : k < L.length) (hL : LiesV (ntsV L) base w) (hB : Below n w w') (hn : w.heap.size ≤ n) :
    ∃ B o, base = some ⟨B, o, none⟩ ∧ B < w'.heap.size ∧ w'.cell? ⟨B, o + k * 3, none⟩ = some (.int .i64 L[k].of_) ∧ w'.cell? ⟨B, o + k * 3 + 1, none⟩ = some (.int .i64 L[k].tag) ∧ w'.cell? ⟨B, o + k * 3 + 2, none⟩ = some (.int .i64 L[k].kind) := by
  have hlen := ntsV_len L
  obtain ⟨B, o, rfl, hBl, -⟩ := hL (k * 3) (by omega)
  have key : ∀ j, j < 3 → w'.cell? ⟨B, o + (k * 3 + j), none⟩ = (ntV L[k])[j]? := fun j hj => by
    obtain ⟨B', o', he, hB', hc⟩ := hL (k * 3 + j) (by omega)
    simp only [Option.some.injEq, Addr.mk.injEq] at he
    obtain ⟨rfl, rfl, -⟩ := he
    rw [← ntsV_get L k j hk hj, ← hc]
    exact hB.cell (p := ⟨B, o + (k * 3 + j), none⟩) (Nat.lt_of_lt_of_le hB' hn)
  exact ⟨B, o, rfl, Nat.lt_of_lt_of_le hBl hB.size, key 0 (by omega), key 1 (by omega), key 2 (by omega)⟩
set_option maxRecDepth 100000 in
set_option maxHeartbeats 1000000 in
theorem Equal_eq (L : List Nt) (b1 b2 : Option Addr) (c1 c2 : Nat) (w : World) (hn : L.length ≤ 5000) (h1 : LiesV (ntsV L) b1 w) (h2 : LiesV (ntsV L) b2 w) :
    Calls Try.prog 35 #[.slice b1 L.length c1, .slice b2 L.length c2] w fun e w' => e = .returned (.bool true) ∧ Below w.heap.size w w' := by
  have H1 := Lib.hid h1
  have H2 := Lib.hid h2
  clear h1 h2
  go_enter Try.func35, Try.ntmps35
  go_wp2
  go_loopw [13, 5] (fun i _ wr => ∃ k : Nat, k ≤ L.length ∧ i = .int .i64 k ∧ Below w.heap.size w wr) (fun i _ _ => L.length - (intOf i).toNat)
  case atStart => exact ⟨0, by omega, rfl, by go_grown⟩
  case round =>
    obtain ⟨k, hk, rfl, hB⟩ := hrel
    by_cases hlt : k < L.length
    · obtain ⟨B1, o1, rfl, hl1, a0, a1, a2⟩ := nts_get k hlt H1.out hB (Nat.le_refl _)
      obtain ⟨B2, o2, rfl, hl2, d0, d1, d2⟩ := nts_get k hlt H2.out hB (Nat.le_refl _)
      have hs := hB.size
      have HW := Lib.hid (wrap_bk k L.length hlt hn)
      obtain ⟨x, hx⟩ : ∃ x, L[k] = x := ⟨_, rfl⟩
      rw [hx] at a0 a1 a2 d0 d1 d2
      have e0 : (x.of_ == x.of_) = true := beq_self_eq_true _
      have e1 : (x.tag == x.tag) = true := beq_self_eq_true _
      have e2 : (x.kind == x.kind) = true := beq_self_eq_true _
      clear hx
      go_wp2
      refine Ear.Pl.wp_region_qs 8 (by kernel_rfl) (by kernel_rfl) ?_; simp only [List.take_succ_cons, List.take_zero, List.drop_succ_cons, List.drop_zero]
      (iterate 8 (refine Ear.Pl.wpQ_run (by rfl) ?_; apply Exists.intro; refine ⟨fun K Q hK w' hw' => ?_, ?_⟩; (focus (subst hw'; simp only [Act.put, List.setIfInBounds_toArray, List.set_cons_succ, List.set_cons_zero] at hK; go_wp2; try rfl)); simp only [Act.put, List.setIfInBounds_toArray, List.set_cons_succ, List.set_cons_zero]))
      refine Ear.Pl.wpQ_nil ?_
      rintro w' rfl
      go_wp2
      go_roundw
      case rel => exact ⟨k + 1, hlt, by go_num, by go_grown⟩
      case measure => simp [intOf]; omega
    · go_wp2
      go_ret
      exact ⟨rfl, hB⟩
set_option maxHeartbeats 1000000 in
theorem Same_bk {w0 W : World} {bs : List Bk} {i j : Nat} {b c : Bk} (h : Books w0 W bs) (hi : bs[i]? = some b) (hj : bs[j]? = some c) (hL : b.L = c.L) :
    Calls Try.prog 14 #[.pointer (some ⟨b.B, 0, none⟩), .pointer (some ⟨c.B, 0, none⟩)] W fun e W' => e = .returned (.bool true) ∧ Below W.heap.size W W' := by
  obtain ⟨h1, -, h3⟩ := h.at_ i b hi
  obtain ⟨k1, -, -⟩ := h.at_ j c hj
  obtain ⟨B, g, cap, L⟩ := b
  obtain ⟨C, g', cap', M⟩ := c
  dsimp only at hL h1 h3 k1
  subst hL
  have hn : L.length ≤ 5000 := by have := h3.most; omega
  have H := Lib.hid h1
  have K := Lib.hid k1
  clear h1 k1 hi hj
  go_enter Try.func14, Try.ntmps14
  go_wp2_with (first | (go_at_call 36; (with_reducible refine Calls.mono (blist_at H.out) ?_); rintro e w' ⟨rfl, rfl⟩) | (go_at_call 36; (with_reducible refine Calls.mono (blist_at K.out) ?_); rintro e w' ⟨rfl, rfl⟩) | (go_at_call 35; (with_reducible refine Calls.mono (Equal_eq L _ _ _ _ _ hn (owns_liesV H.out.own) (owns_liesV K.out.own)) ?_); rintro e w1 ⟨rfl, hb1⟩))
  go_ret
  exact ⟨rfl, hb1⟩
end Go.Proofs.Ytfkgllbooopfdaa
