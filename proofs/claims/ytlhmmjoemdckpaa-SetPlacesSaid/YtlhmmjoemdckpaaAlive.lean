/-
  What the laws' first call comes to.
-/
import Derived.Test.YtlhmmjoemdckpaaSetsH
import Derived.WalkKit
import Derived.WalkSpells
import Derived.WalkLawsBesides
import Derived.Handy
import Derived.Lib.Hide
namespace Go.Proofs.Ytlhmmjoemdckpaa
set_option linter.unusedSimpArgs false
set_option linter.unusedVariables false
open Go.RowKit
attribute [local go_sem] eqSet
theorem cnt_alive : Ear.cnt128 (Ear.clean (ofL [0, 33])) = 2 := by decide

set_option maxRecDepth 100000 in
set_option maxHeartbeats 1000000 in
theorem alive_calls (w : World) : Calls Try.prog 17 #[] w fun e w' => e = .returned (.bool true) ∧ Below w.heap.size w w' := by
  have e0 : Ear.wd (ofL [0, 33]) 0 = 1 := by decide
  have e1 : Ear.wd (ofL [0, 33]) 1 = 2 := by decide
  have e2 : Ear.wd (ofL [0, 33]) 2 = 0 := by decide
  have e3 : Ear.wd (ofL [0, 33]) 3 = 0 := by decide
  have HCt := fun w => Count_calls (ofL [0, 33]) w
  rw [e0, e1, e2, e3, cnt_alive] at HCt
  clear e0 e1 e2 e3
  have HC := Lib.hid HCt
  clear HCt
  go_enter Try.func17, Try.ntmps17
  go_wp2_with (first | (go_at_call 19; refine (Of_alive _ _ _ ?_ ?_ ?_).mono ?_; rotate_left 3; rintro e w1 ⟨rfl, hb1⟩; have hB1 : Below w.heap.size w w1 := Below.trans (by go_grown) (hb1.mono (by (try simp only [World.size_alloc, World.size_setCell, World.size_drew, setRow_size]); omega)); have hs1 := hB1.size; clear hb1; rotate_left 1) | (go_at_call 15; refine (HC.out _).mono ?_; rintro e w2 ⟨rfl, hb2⟩; have hB2 : Below w.heap.size w w2 := Below.trans (by go_grown) (hb2.mono (by (try simp only [World.size_alloc, World.size_setCell, World.size_drew, setRow_size]); omega)); have hs2 := hB2.size; clear hb2))
  · rw [World.size_alloc]; omega
  · go_simp
  · go_simp
  · go_ret
    exact ⟨rfl, hB2⟩
end Go.Proofs.Ytlhmmjoemdckpaa
