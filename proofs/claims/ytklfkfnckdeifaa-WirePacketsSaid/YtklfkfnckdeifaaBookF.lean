/-
  What the small calls on notices and books come to.
  What Same, Take and New of books come to.
-/
import Derived.Test.YtklfkfnckdeifaaBookC
import Derived.Test.YtklfkfnckdeifaaRest
import Derived.Laws.MakeOwn
section
namespace Go.Proofs.Ytklfkfnckdeifaa
set_option linter.unusedSimpArgs false
set_option linter.unusedVariables false
open Go.RowKit
set_option maxHeartbeats 1000000 in
theorem isTag_eq {x : Nt} {b : Bool} (h : tagOk x = b) (w : World) : Calls Try.prog 71 #[.int .i64 x.tag] w fun e w' => e = .returned (.bool b) ∧ w' = w := by
  subst h
  unfold tagOk
  by_cases h : 0 ≤ x.tag
  · have hd : decide (0 ≤ x.tag) = true := decide_eq_true h
    go_enter Try.func71, Try.ntmps71
    go_wp2
    go_ret
    exact ⟨by first | rfl | (rw [hd]; rfl), rfl⟩
  · have hd : decide (0 ≤ x.tag) = false := decide_eq_false h
    go_enter Try.func71, Try.ntmps71
    go_wp2
    go_ret
    exact ⟨by first | rfl | (rw [hd]; rfl), rfl⟩
set_option maxHeartbeats 1000000 in
theorem isKind_eq {x : Nt} {b : Bool} (h : kindOk x = b) (w : World) : Calls Try.prog 72 #[.int .i64 x.kind] w fun e w' => e = .returned (.bool b) ∧ w' = w := by
  subst h
  unfold kindOk
  by_cases h : x.kind = 1
  · have hd : (x.kind == 1) = true := beq_iff_eq.2 h
    go_enter Try.func72, Try.ntmps72
    go_wp2
    go_ret
    exact ⟨by first | rfl | (rw [hd]; rfl), rfl⟩
  · have hd : (x.kind == 1) = false := beq_eq_false_iff_ne.2 h
    go_enter Try.func72, Try.ntmps72
    go_wp2
    go_ret
    exact ⟨by first | rfl | (rw [hd]; rfl), rfl⟩
set_option maxRecDepth 100000 in
set_option maxHeartbeats 2000000 in
theorem Valid_eq {n : Int} {x : Nt} {b : Bool} (h : validN n x = b) (w : World) : Calls Try.prog 64 #[.int .i64 n, .agg #[.int .i64 (x).of_, .int .i64 (x).tag, .int .i64 (x).kind]] w fun e w' => e = .returned (.bool b) ∧ Below w.heap.size w w' := by
  have HV0 := Lib.hid h
  obtain ⟨bt, hbt⟩ : ∃ bt, tagOk x = bt := ⟨_, rfl⟩
  obtain ⟨bk, hbk⟩ : ∃ bk, kindOk x = bk := ⟨_, rfl⟩
  have HT := Lib.hid hbt
  have HK := Lib.hid hbk
  have hq : b = (decide (1 ≤ n) && decide (n ≤ 100) && decide (0 ≤ x.of_) && decide (x.of_ < n) && bt && bk) := by rw [← h]; unfold validN; rw [hbt, hbk]
  have HV := Lib.hid hq
  clear h hq HV0 hbt hbk
  by_cases c1 : 1 ≤ n
  · by_cases c2 : n ≤ 100
    · by_cases c3 : 0 ≤ x.of_
      · by_cases c4 : x.of_ < n
        · have d1 : decide (1 ≤ n) = true := decide_eq_true c1
          have d2 : decide (n ≤ 100) = true := decide_eq_true c2
          have d3 : decide (0 ≤ x.of_) = true := decide_eq_true c3
          have d4 : decide (x.of_ < n) = true := decide_eq_true c4
          cases bt <;> cases bk
          all_goals
            go_enter Try.func64, Try.ntmps64
            go_wp2_with (first | (go_at_call 71; (with_reducible refine Calls.mono (isTag_eq HT.out _) ?_); rintro e w' ⟨rfl, rfl⟩) | (go_at_call 72; (with_reducible refine Calls.mono (isKind_eq HK.out _) ?_); rintro e w' ⟨rfl, rfl⟩))
            go_ret
            exact ⟨by rw [HV.out, d1, d2, d3, d4]; rfl, by go_grown⟩
        · have d1 : decide (x.of_ < n) = false := decide_eq_false c4
          go_enter Try.func64, Try.ntmps64
          go_wp2
          go_ret
          exact ⟨by rw [HV.out, d1]; simp, by go_grown⟩
      · have d1 : decide (0 ≤ x.of_) = false := decide_eq_false c3
        go_enter Try.func64, Try.ntmps64
        go_wp2
        go_ret
        exact ⟨by rw [HV.out, d1]; simp, by go_grown⟩
    · have d1 : decide (n ≤ 100) = false := decide_eq_false c2
      go_enter Try.func64, Try.ntmps64
      go_wp2
      go_ret
      exact ⟨by rw [HV.out, d1]; simp, by go_grown⟩
  · have d1 : decide (1 ≤ n) = false := decide_eq_false c1
    go_enter Try.func64, Try.ntmps64
    go_wp2
    go_ret
    exact ⟨by rw [HV.out, d1]; simp, by go_grown⟩
theorem owns_frozen {W : World} {lo e s n cap g : Nat} {xs : List Value} (h : W.ownsRow lo e s (.slice (some ⟨g, 0, none⟩) n cap) n xs) (j : Nat) : W.frozen? ⟨g, j, none⟩ = false := by
  obtain ⟨hl, ⟨hv, -⟩ | ⟨g', cap', cur, hv, hb, hc, -⟩⟩ := h
  · cases hv
  · simp only [Value.slice.injEq, Option.some.injEq, Addr.mk.injEq] at hv
    obtain ⟨⟨rfl, -, -⟩, -, -⟩ := hv
    have hB : Ear.Blk W g e cur.toList := by unfold Ear.Blk; simpa using hc
    exact hB.frozen j
theorem nt_cells {W : World} {lo e n cap g : Nat} {L : List Nt} (h : W.ownsRow lo e 3 (.slice (some ⟨g, 0, none⟩) n cap) n (ntsV L)) (k : Nat) (hk : k < L.length) :
    W.cell? ⟨g, k * 3, none⟩ = some (.int .i64 L[k].of_) ∧ W.cell? ⟨g, k * 3 + 1, none⟩ = some (.int .i64 L[k].tag) ∧ W.cell? ⟨g, k * 3 + 2, none⟩ = some (.int .i64 L[k].kind) := by
  have hl := owns_liesV h
  have key : ∀ j, j < 3 → W.cell? ⟨g, k * 3 + j, none⟩ = (ntV L[k])[j]? := fun j hj => by
    have hlen := ntsV_len L
    obtain ⟨B, o, he, -, hc⟩ := hl (k * 3 + j) (by omega)
    simp only [Option.some.injEq, Addr.mk.injEq] at he
    obtain ⟨rfl, rfl, -⟩ := he
    rw [← ntsV_get L k j hk hj, ← hc, Nat.zero_add]
  exact ⟨key 0 (by omega), key 1 (by omega), key 2 (by omega)⟩
def errN (n : Nat) (x : Nt) : Int := if validN n x = true then 0 else 50
theorem errN_ok {n : Nat} {x : Nt} (h : validN n x = true) : errN n x = 0 := by unfold errN; rw [if_pos h]
theorem errN_bad {n : Nat} {x : Nt} (h : validN n x = false) : errN n x = 50 := by unfold errN; rw [if_neg (by rw [h]; decide)]
end Go.Proofs.Ytklfkfnckdeifaa
end
section
namespace Go.Proofs.Ytklfkfnckdeifaa
set_option linter.unusedSimpArgs false
set_option linter.unusedVariables false
open Go.RowKit
theorem wrap_bk (k n : Nat) (h : k < n) (hn : n ≤ 5000) : wrap64 ((k : Int) + 1) = ((k + 1 : Nat) : Int) := by simp only [wrap64]; omega
theorem nts_get {L : List Nt} {base : Option Addr} {w w' : World} {n : Nat} (k : Nat) (hk : k < L.length) (hL : LiesV (ntsV L) base w) (hB : Below n w w') (hn : w.heap.size ≤ n) :
    ∃ B o, base = some ⟨B, o, none⟩ ∧ B < w'.heap.size ∧ w'.cell? ⟨B, o + k * 3, none⟩ = some (.int .i64 L[k].of_) ∧ w'.cell? ⟨B, o + k * 3 + 1, none⟩ = some (.int .i64 L[k].tag) ∧ w'.cell? ⟨B, o + k * 3 + 2, none⟩ = some (.int .i64 L[k].kind) := by
  have hlen := ntsV_len L
  obtain ⟨B, o, rfl, hBl, -⟩ := hL (k * 3) (by omega)
  have key : ∀ j, j < 3 → w'.cell? ⟨B, o + (k * 3 + j), none⟩ = (ntV L[k])[j]? := fun j hj => by
    obtain ⟨B', o', he, hB', hc⟩ := hL (k * 3 + j) (by omega)
    simp only [Option.some.injEq, Addr.mk.injEq] at he
    obtain ⟨rfl, rfl, -⟩ := he
    rw [← ntsV_get L k j hk hj, ← hc]
    exact hB.cell (p := ⟨B, o + (k * 3 + j), none⟩) (Nat.lt_of_lt_of_le hB' hn)
  exact ⟨B, o, rfl, Nat.lt_of_lt_of_le hBl hB.size, key 0 (by omega), key 1 (by omega), key 2 (by omega)⟩
end Go.Proofs.Ytklfkfnckdeifaa
end
