/-
  The document's Valid, Rank, Beats, Fresh, Put.
-/
import Derived.Test.YtklfkfnckdeifaaBookF
import Derived.Test.YtklfkfnckdeifaaRefE
namespace Go.Proofs.Ytklfkfnckdeifaa
set_option linter.unusedSimpArgs false
set_option linter.unusedVariables false
open Go.RowKit
attribute [local irreducible] Ear.Pl.wpQ Ear.Pa.wpQ Ear.Fe.wpQ Ear.Fa.wpQ
set_option maxRecDepth 100000 in
set_option maxHeartbeats 4000000 in
theorem RValid_eq {n : Int} {x : Nt} {b : Bool} (h : validN n x = b) (w : World) : Calls Try.prog 50 #[.int .i64 n, .agg #[.int .i64 (x).of_, .int .i64 (x).tag, .int .i64 (x).kind]] w fun e w' => e = .returned (.bool b) ∧ Below w.heap.size w w' := by
  have hq : b = (decide (1 ≤ n) && decide (n ≤ 100) && decide (0 ≤ x.of_) && decide (x.of_ < n) && (decide (0 ≤ x.tag) && decide (x.tag ≤ 1048576)) && ((x.kind == 1) || (x.kind == 2))) := by rw [← h]; rfl
  have HV := Lib.hid hq
  clear h hq
  by_cases c1 : 1 ≤ n
  · by_cases c2 : n ≤ 100
    · by_cases c3 : 0 ≤ x.of_
      · by_cases c4 : x.of_ < n
        · by_cases c5 : 0 ≤ x.tag
          · by_cases c6 : x.tag ≤ 1048576
            · have d1 : decide (1 ≤ n) = true := decide_eq_true c1
              have d2 : decide (n ≤ 100) = true := decide_eq_true c2
              have d3 : decide (0 ≤ x.of_) = true := decide_eq_true c3
              have d4 : decide (x.of_ < n) = true := decide_eq_true c4
              have d5 : decide (0 ≤ x.tag) = true := decide_eq_true c5
              have d6 : decide (x.tag ≤ 1048576) = true := decide_eq_true c6
              by_cases k1 : x.kind = 1
              · have e1 : (x.kind == 1) = true := beq_iff_eq.2 k1
                clear k1
                go_enter Try.func50, Try.ntmps50
                go_wp2
                go_ret
                exact ⟨by rw [HV.out, d1, d2, d3, d4, d5, d6, e1]; rfl, by go_grown⟩
              · have e1 : (x.kind == 1) = false := beq_eq_false_iff_ne.2 k1
                obtain ⟨b2, e2⟩ : ∃ b2, (x.kind == 2) = b2 := ⟨_, rfl⟩
                clear k1
                go_enter Try.func50, Try.ntmps50
                go_wp2
                go_ret
                exact ⟨by rw [HV.out, d1, d2, d3, d4, d5, d6, e1, e2]; rfl, by go_grown⟩
            · have d6 : decide (x.tag ≤ 1048576) = false := decide_eq_false c6
              go_enter Try.func50, Try.ntmps50
              go_wp2
              go_ret
              exact ⟨by rw [HV.out, d6]; simp, by go_grown⟩
          · have d5 : decide (0 ≤ x.tag) = false := decide_eq_false c5
            go_enter Try.func50, Try.ntmps50
            go_wp2
            go_ret
            exact ⟨by rw [HV.out, d5]; simp, by go_grown⟩
        · have d4 : decide (x.of_ < n) = false := decide_eq_false c4
          go_enter Try.func50, Try.ntmps50
          go_wp2
          go_ret
          exact ⟨by rw [HV.out, d4]; simp, by go_grown⟩
      · have d3 : decide (0 ≤ x.of_) = false := decide_eq_false c3
        go_enter Try.func50, Try.ntmps50
        go_wp2
        go_ret
        exact ⟨by rw [HV.out, d3]; simp, by go_grown⟩
    · have d2 : decide (n ≤ 100) = false := decide_eq_false c2
      go_enter Try.func50, Try.ntmps50
      go_wp2
      go_ret
      exact ⟨by rw [HV.out, d2]; simp, by go_grown⟩
  · have d1 : decide (1 ≤ n) = false := decide_eq_false c1
    go_enter Try.func50, Try.ntmps50
    go_wp2
    go_ret
    exact ⟨by rw [HV.out, d1]; simp, by go_grown⟩
end Go.Proofs.Ytklfkfnckdeifaa
