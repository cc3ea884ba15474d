/-
  What the calls of package idset come to: how many; lists of ids.
-/
import Derived.Test.YtfkgllbooopfdaaSetsE
import Derived.Test.YtfkgllbooopfdaaOnes
import Derived.WalkKit
import Derived.WalkSpells
import Derived.WalkLawsBesides
import Derived.Handy
import Derived.Lib.Hide
namespace Go.Proofs.Ytfkgllbooopfdaa
set_option linter.unusedSimpArgs false
set_option linter.unusedVariables false
open Go.RowKit
attribute [local go_sem] eqSet
theorem idx4_0 (x0 x1 x2 x3 : Value) (w : World) : Sem.run Try.prog (Instr.index 35 (.agg #[x0, x1, x2, x3]) (.int .i64 0)) w = .ok x0 w := by kernel_rfl
theorem idx4_1 (x0 x1 x2 x3 : Value) (w : World) : Sem.run Try.prog (Instr.index 35 (.agg #[x0, x1, x2, x3]) (.int .i64 1)) w = .ok x1 w := by kernel_rfl
theorem idx4_2 (x0 x1 x2 x3 : Value) (w : World) : Sem.run Try.prog (Instr.index 35 (.agg #[x0, x1, x2, x3]) (.int .i64 2)) w = .ok x2 w := by kernel_rfl
theorem idx4_3 (x0 x1 x2 x3 : Value) (w : World) : Sem.run Try.prog (Instr.index 35 (.agg #[x0, x1, x2, x3]) (.int .i64 3)) w = .ok x3 w := by kernel_rfl

theorem sum4 (v : BitVec 128) : wrap64 (wrap64 (wrap64 (wrap64 ((Ear.cw v 0 : Nat) : Int) + ((Ear.cw v 1 : Nat) : Int)) + ((Ear.cw v 2 : Nat) : Int)) + ((Ear.cw v 3 : Nat) : Int)) = ((Ear.cnt128 v : Nat) : Int) := by
  have h := Ear.cnt128_words v
  have h0 : Ear.cw v 0 ≤ 32 := Ear.cnt_le 32 _
  have h1 : Ear.cw v 1 ≤ 32 := Ear.cnt_le 32 _
  have h2 : Ear.cw v 2 ≤ 32 := Ear.cnt_le 32 _
  have h3 : Ear.cw v 3 ≤ 32 := Ear.cnt_le 32 _
  simp only [wrap64]
  omega

attribute [local go_sem] idx4_0 idx4_1 idx4_2 idx4_3
set_option maxRecDepth 100000 in
set_option maxHeartbeats 1000000 in
theorem Count_calls (v : BitVec 128) (w : World) : Calls Try.prog 19 #[.agg #[.int .u32 (Ear.wd (v) 0), .int .u32 (Ear.wd (v) 1), .int .u32 (Ear.wd (v) 2), .int .u32 (Ear.wd (v) 3)]] w fun e w' => e = .returned (.int .i64 ((Ear.cnt128 (Ear.clean v) : Nat) : Int)) ∧ Below w.heap.size w w' := by
  go_enter Try.func19, Try.ntmps19
  go_wp2_with (go_at_call 44; refine (Clean_calls _ _).mono ?_; rintro e w1 ⟨rfl, hb1⟩; have hB1 : Below w.heap.size w w1 := Below.trans (by go_grown) (hb1.mono (by (try simp only [World.size_alloc, World.size_setCell, World.size_drew, setRow_size]); omega)); have hs1 := hB1.size; clear hb1)
  refine wp_loop_rounds 5 ?_
  rw [rounds_succ]
  go_wp2_with (go_at_call 45; refine (OnesCount_calls _ 0 _).mono ?_; rintro e w2 ⟨rfl, hb2⟩; have hB2 : Below w.heap.size w w2 := Below.trans (by go_grown) (hb2.mono (by (try simp only [World.size_alloc, World.size_setCell, World.size_drew, setRow_size]); omega)); have hs2 := hB2.size; clear hb2)
  rw [rounds_succ]
  go_wp2_with (go_at_call 45; refine (OnesCount_calls _ 1 _).mono ?_; rintro e w3 ⟨rfl, hb3⟩; have hB3 : Below w.heap.size w w3 := Below.trans (by go_grown) (hb3.mono (by (try simp only [World.size_alloc, World.size_setCell, World.size_drew, setRow_size]); omega)); have hs3 := hB3.size; clear hb3)
  rw [rounds_succ]
  go_wp2_with (go_at_call 45; refine (OnesCount_calls _ 2 _).mono ?_; rintro e w4 ⟨rfl, hb4⟩; have hB4 : Below w.heap.size w w4 := Below.trans (by go_grown) (hb4.mono (by (try simp only [World.size_alloc, World.size_setCell, World.size_drew, setRow_size]); omega)); have hs4 := hB4.size; clear hb4)
  rw [rounds_succ]
  go_wp2_with (go_at_call 45; refine (OnesCount_calls _ 3 _).mono ?_; rintro e w5 ⟨rfl, hb5⟩; have hB5 : Below w.heap.size w w5 := Below.trans (by go_grown) (hb5.mono (by (try simp only [World.size_alloc, World.size_setCell, World.size_drew, setRow_size]); omega)); have hs5 := hB5.size; clear hb5)
  rw [rounds_succ]
  go_wp2
  go_ret
  exact ⟨by rw [← sum4]; rfl, hB5⟩
end Go.Proofs.Ytfkgllbooopfdaa
