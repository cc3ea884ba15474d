/-
  What the calls of package idset come to: sets of sets.
-/
import Derived.Test.YtlhmmjoemdckpaaSetsB
import Derived.WalkKit
import Derived.WalkSpells
import Derived.WalkLawsBesides
import Derived.Handy
import Derived.Lib.Hide
namespace Go.Proofs.Ytlhmmjoemdckpaa
set_option linter.unusedSimpArgs false
set_option linter.unusedVariables false
open Go.RowKit
attribute [local go_sem] eqSet
set_option maxRecDepth 100000 in
set_option maxHeartbeats 1000000 in
theorem Union_calls (a b : BitVec 128) (w : World) : Calls Try.prog 13 #[.agg #[.int .u32 (Ear.wd (a) 0), .int .u32 (Ear.wd (a) 1), .int .u32 (Ear.wd (a) 2), .int .u32 (Ear.wd (a) 3)], .agg #[.int .u32 (Ear.wd (b) 0), .int .u32 (Ear.wd (b) 1), .int .u32 (Ear.wd (b) 2), .int .u32 (Ear.wd (b) 3)]] w fun e w' => e = .returned (.agg #[.int .u32 (Ear.wd (Ear.clean (a ||| b)) 0), .int .u32 (Ear.wd (Ear.clean (a ||| b)) 1), .int .u32 (Ear.wd (Ear.clean (a ||| b)) 2), .int .u32 (Ear.wd (Ear.clean (a ||| b)) 3)]) ∧ Below w.heap.size w w' := by
  go_enter Try.func13, Try.ntmps13
  go_wp2_with (first | (go_at_call 50; refine (each_or _ _ _).mono ?_; rintro e w1 ⟨rfl, hb1⟩; obtain ⟨hc1, hf1⟩ := Ear.bcell hb1; have hB1 : Below w.heap.size w w1 := Below.trans (by go_grown) (hb1.mono (by (try simp only [World.size_alloc, World.size_setCell, World.size_drew, setRow_size]); omega)); have hs1 := hB1.size; have hz1_0 : w.heap.size + 1 + 1 < w1.heap.size := (by have hq := hb1.size; (try simp only [World.size_alloc, World.size_setCell, World.size_drew] at hq); omega)) | (go_at_call 18; refine (Clean_calls _ _).mono ?_; rintro e w2 ⟨rfl, hb2⟩; obtain ⟨hc2, hf2⟩ := Ear.bcell hb2; have hB2 : Below w.heap.size w w2 := Below.trans (by go_grown) (hb2.mono (by (try simp only [World.size_alloc, World.size_setCell, World.size_drew, setRow_size]); omega)); have hs2 := hB2.size; have hz2_0 : w.heap.size + 1 + 1 < w2.heap.size := (by have hq := hb2.size; (try simp only [World.size_alloc, World.size_setCell, World.size_drew] at hq); omega)))
  refine bodyPost_ret (v := .agg #[.int .u32 (Ear.wd (Ear.clean (a ||| b)) 0), .int .u32 (Ear.wd (Ear.clean (a ||| b)) 1), .int .u32 (Ear.wd (Ear.clean (a ||| b)) 2), .int .u32 (Ear.wd (Ear.clean (a ||| b)) 3)]) (by simp [results, Try.results13, go_sem, hc1, hc2, hz1_0, hz2_0]) rfl ⟨rfl, ?_⟩
  go_grown

set_option maxRecDepth 100000 in
set_option maxHeartbeats 1000000 in
theorem Meet_calls (a b : BitVec 128) (w : World) : Calls Try.prog 14 #[.agg #[.int .u32 (Ear.wd (a) 0), .int .u32 (Ear.wd (a) 1), .int .u32 (Ear.wd (a) 2), .int .u32 (Ear.wd (a) 3)], .agg #[.int .u32 (Ear.wd (b) 0), .int .u32 (Ear.wd (b) 1), .int .u32 (Ear.wd (b) 2), .int .u32 (Ear.wd (b) 3)]] w fun e w' => e = .returned (.agg #[.int .u32 (Ear.wd (Ear.clean (a &&& b)) 0), .int .u32 (Ear.wd (Ear.clean (a &&& b)) 1), .int .u32 (Ear.wd (Ear.clean (a &&& b)) 2), .int .u32 (Ear.wd (Ear.clean (a &&& b)) 3)]) ∧ Below w.heap.size w w' := by
  go_enter Try.func14, Try.ntmps14
  go_wp2_with (first | (go_at_call 50; refine (each_and _ _ _).mono ?_; rintro e w1 ⟨rfl, hb1⟩; obtain ⟨hc1, hf1⟩ := Ear.bcell hb1; have hB1 : Below w.heap.size w w1 := Below.trans (by go_grown) (hb1.mono (by (try simp only [World.size_alloc, World.size_setCell, World.size_drew, setRow_size]); omega)); have hs1 := hB1.size; have hz1_0 : w.heap.size + 1 + 1 < w1.heap.size := (by have hq := hb1.size; (try simp only [World.size_alloc, World.size_setCell, World.size_drew] at hq); omega)) | (go_at_call 18; refine (Clean_calls _ _).mono ?_; rintro e w2 ⟨rfl, hb2⟩; obtain ⟨hc2, hf2⟩ := Ear.bcell hb2; have hB2 : Below w.heap.size w w2 := Below.trans (by go_grown) (hb2.mono (by (try simp only [World.size_alloc, World.size_setCell, World.size_drew, setRow_size]); omega)); have hs2 := hB2.size; have hz2_0 : w.heap.size + 1 + 1 < w2.heap.size := (by have hq := hb2.size; (try simp only [World.size_alloc, World.size_setCell, World.size_drew] at hq); omega)))
  refine bodyPost_ret (v := .agg #[.int .u32 (Ear.wd (Ear.clean (a &&& b)) 0), .int .u32 (Ear.wd (Ear.clean (a &&& b)) 1), .int .u32 (Ear.wd (Ear.clean (a &&& b)) 2), .int .u32 (Ear.wd (Ear.clean (a &&& b)) 3)]) (by simp [results, Try.results14, go_sem, hc1, hc2, hz1_0, hz2_0]) rfl ⟨rfl, ?_⟩
  go_grown

set_option maxRecDepth 100000 in
set_option maxHeartbeats 1000000 in
theorem Less_calls (a b : BitVec 128) (w : World) : Calls Try.prog 16 #[.agg #[.int .u32 (Ear.wd (a) 0), .int .u32 (Ear.wd (a) 1), .int .u32 (Ear.wd (a) 2), .int .u32 (Ear.wd (a) 3)], .agg #[.int .u32 (Ear.wd (b) 0), .int .u32 (Ear.wd (b) 1), .int .u32 (Ear.wd (b) 2), .int .u32 (Ear.wd (b) 3)]] w fun e w' => e = .returned (.agg #[.int .u32 (Ear.wd (Ear.clean (a &&& ~~~b)) 0), .int .u32 (Ear.wd (Ear.clean (a &&& ~~~b)) 1), .int .u32 (Ear.wd (Ear.clean (a &&& ~~~b)) 2), .int .u32 (Ear.wd (Ear.clean (a &&& ~~~b)) 3)]) ∧ Below w.heap.size w w' := by
  go_enter Try.func16, Try.ntmps16
  go_wp2_with (first | (go_at_call 50; refine (each_less _ _ _).mono ?_; rintro e w1 ⟨rfl, hb1⟩; obtain ⟨hc1, hf1⟩ := Ear.bcell hb1; have hB1 : Below w.heap.size w w1 := Below.trans (by go_grown) (hb1.mono (by (try simp only [World.size_alloc, World.size_setCell, World.size_drew, setRow_size]); omega)); have hs1 := hB1.size; have hz1_0 : w.heap.size + 1 + 1 < w1.heap.size := (by have hq := hb1.size; (try simp only [World.size_alloc, World.size_setCell, World.size_drew] at hq); omega)) | (go_at_call 18; refine (Clean_calls _ _).mono ?_; rintro e w2 ⟨rfl, hb2⟩; obtain ⟨hc2, hf2⟩ := Ear.bcell hb2; have hB2 : Below w.heap.size w w2 := Below.trans (by go_grown) (hb2.mono (by (try simp only [World.size_alloc, World.size_setCell, World.size_drew, setRow_size]); omega)); have hs2 := hB2.size; have hz2_0 : w.heap.size + 1 + 1 < w2.heap.size := (by have hq := hb2.size; (try simp only [World.size_alloc, World.size_setCell, World.size_drew] at hq); omega)))
  refine bodyPost_ret (v := .agg #[.int .u32 (Ear.wd (Ear.clean (a &&& ~~~b)) 0), .int .u32 (Ear.wd (Ear.clean (a &&& ~~~b)) 1), .int .u32 (Ear.wd (Ear.clean (a &&& ~~~b)) 2), .int .u32 (Ear.wd (Ear.clean (a &&& ~~~b)) 3)]) (by simp [results, Try.results16, go_sem, hc1, hc2, hz1_0, hz2_0]) rfl ⟨rfl, ?_⟩
  go_grown
end Go.Proofs.Ytlhmmjoemdckpaa
