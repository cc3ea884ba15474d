/-
  What alive and the law TallyNone come to.
-/
import Derived.Test.YtfnolmlmmimehaaTallyD
namespace Go.Proofs.Ytfnolmlmmimehaa
set_option linter.unusedSimpArgs false
set_option linter.unusedVariables false
open Go.RowKit
attribute [local go_sem] eqNilP eqNilN eqSet
theorem w15 : .agg #[.int .u32 (Ear.wd (15#128) 0), .int .u32 (Ear.wd (15#128) 1), .int .u32 (Ear.wd (15#128) 2), .int .u32 (Ear.wd (15#128) 3)] = Value.agg #[.int .u32 15, .int .u32 0, .int .u32 0, .int .u32 0] := by
  have e0 : Ear.wd 15#128 0 = 15 := by decide
  have e1 : Ear.wd 15#128 1 = 0 := by decide
  have e2 : Ear.wd 15#128 2 = 0 := by decide
  have e3 : Ear.wd 15#128 3 = 0 := by decide
  rw [e0, e1, e2, e3]
theorem w1_ : .agg #[.int .u32 (Ear.wd (1#128) 0), .int .u32 (Ear.wd (1#128) 1), .int .u32 (Ear.wd (1#128) 2), .int .u32 (Ear.wd (1#128) 3)] = Value.agg #[.int .u32 1, .int .u32 0, .int .u32 0, .int .u32 0] := by
  have e0 : Ear.wd 1#128 0 = 1 := by decide
  have e1 : Ear.wd 1#128 1 = 0 := by decide
  have e2 : Ear.wd 1#128 2 = 0 := by decide
  have e3 : Ear.wd 1#128 3 = 0 := by decide
  rw [e0, e1, e2, e3]
theorem w5 : .agg #[.int .u32 (Ear.wd (5#128) 0), .int .u32 (Ear.wd (5#128) 1), .int .u32 (Ear.wd (5#128) 2), .int .u32 (Ear.wd (5#128) 3)] = Value.agg #[.int .u32 5, .int .u32 0, .int .u32 0, .int .u32 0] := by
  have e0 : Ear.wd 5#128 0 = 5 := by decide
  have e1 : Ear.wd 5#128 1 = 0 := by decide
  have e2 : Ear.wd 5#128 2 = 0 := by decide
  have e3 : Ear.wd 5#128 3 = 0 := by decide
  rw [e0, e1, e2, e3]
def tl1 : Tl := ⟨4, 3, 7, 4#128, [15#128]⟩
def tl2 : Tl := ⟨4, 3, 7, 5#128, [15#128, 1#128]⟩
theorem new_alive : newE 4 1 2 7 15#128 = 0 := by decide +kernel
theorem newT_alive : newT 4 1 2 7 15#128 = tl1 := by
  have : withV 0#128 2 = 4#128 := by decide +kernel
  unfold newT Tl.add tl1
  rw [this]; rfl
theorem take_alive : takeV tl1 0 7 1#128 = (1, 0) := by decide +kernel
theorem takeT_alive : takeT tl1 0 7 1#128 = tl2 := by
  have h : withV 4#128 0 = 5#128 := by decide +kernel
  unfold takeT
  rw [take_alive, if_pos rfl]
  unfold Tl.add tl1 tl2
  simp only [h]; rfl
theorem New_alive (w : World) : Calls Try.prog 13 #[.int .i64 4, .int .i64 1, .int .i64 2, .int .i64 7, .agg #[.int .u32 15, .int .u32 0, .int .u32 0, .int .u32 0]] w fun e w' =>
    ∃ B base cap, e = .returned (.tuple #[.pointer (some ⟨B, 0, none⟩), .int .i64 0]) ∧ w.heap.size ≤ B ∧ TlAt w' B w.heap.size base cap tl1 ∧ Below w.heap.size w w' := by
  rw [← w15]
  refine (New_calls 4 1 2 7 15#128 w).mono ?_
  rintro e w' ⟨hb, -, hg⟩
  obtain ⟨B, base, cap, he, h1, h2⟩ := hg new_alive
  rw [newT_alive] at h2
  exact ⟨B, base, cap, he, h1, h2, hb⟩
theorem Take_alive {w : World} {B lo cap : Nat} {base : Option Addr} (h : TlAt w B lo base cap tl1) (hlo : lo ≤ w.heap.size) : Calls Try.prog 15 #[.pointer (some ⟨B, 0, none⟩), .int .i64 0, .int .i64 7, .agg #[.int .u32 1, .int .u32 0, .int .u32 0, .int .u32 0]] w fun e w' =>
    ∃ base' cap', e = .returned (.tuple #[.int .i64 1, .int .i64 0]) ∧ TlAt w' B lo base' cap' tl2 ∧ Ear.Keep (TlS B base) w w' := by
  rw [← w1_]
  refine (Take_calls 0 7 1#128 h hlo (by decide)).mono ?_
  rintro e w' ⟨he, ⟨base', cap', h1, _⟩, hk⟩
  rw [takeT_alive] at h1
  rw [take_alive] at he
  exact ⟨base', cap', he, h1, hk⟩
theorem tlS_lo {w : World} {B lo cap n : Nat} {base : Option Addr} {t : Tl} (h : TlAt w B lo base cap t) (hB : n ≤ B) (hlo : n ≤ lo) : ∀ k, TlS B base k → n ≤ k := by
  rintro k (rfl | hk)
  · exact hB
  · have := (h.own.lt k (by rw [ownBlock_of]; exact hk)).1; omega

theorem Need_alive {w : World} {B lo cap : Nat} {base : Option Addr} (h : TlAt w B lo base cap tl2) : Calls Try.prog 60 #[.pointer (some ⟨B, 0, none⟩)] w fun e w' => e = .returned (.int .i64 3) ∧ w' = w := Need_at h
theorem Have_alive {w : World} {B lo cap : Nat} {base : Option Addr} (h : TlAt w B lo base cap tl2) : Calls Try.prog 61 #[.pointer (some ⟨B, 0, none⟩)] w fun e w' => e = .returned (.int .i64 2) ∧ w' = w := Have_at h
theorem Repliers_alive {w : World} {B lo cap : Nat} {base : Option Addr} (h : TlAt w B lo base cap tl2) : Calls Try.prog 53 #[.pointer (some ⟨B, 0, none⟩)] w fun e w' => e = .returned (.agg #[.int .u32 5, .int .u32 0, .int .u32 0, .int .u32 0]) ∧ Below w.heap.size w w' := by
  rw [← w5]; exact Repliers_at h
attribute [local irreducible] Ear.wd Ear.one Ear.clean withV withE hasV tl1 tl2
theorem zero_take (from_ round : Int) (heard : BitVec 128) : takeV ⟨0, 0, 0, 0#128, []⟩ from_ round heard = (5, 0) := by
  unfold takeV
  rw [if_pos]
  by_cases h : from_ < 0
  · simp [h]
  · simp; omega
def tl0 : Tl := ⟨0, 0, 0, 0#128, []⟩
theorem Take_zero {w : World} {B lo cap : Nat} {base : Option Addr} (from_ round : Int) (heard : BitVec 128) (h : TlAt w B lo base cap tl0) (hlo : lo ≤ w.heap.size) : Calls Try.prog 15 #[.pointer (some ⟨B, 0, none⟩), .int .i64 from_, .int .i64 round, .agg #[.int .u32 (Ear.wd (heard) 0), .int .u32 (Ear.wd (heard) 1), .int .u32 (Ear.wd (heard) 2), .int .u32 (Ear.wd (heard) 3)]] w fun e w' =>
    ∃ base' cap', e = .returned (.tuple #[.int .i64 5, .int .i64 0]) ∧ TlAt w' B lo base' cap' tl0 ∧ Ear.Keep (TlS B base) w w' := by
  refine (Take_calls from_ round heard h hlo (by decide)).mono ?_
  rintro e w' ⟨he, ⟨base', cap', h1, _⟩, hk⟩
  have hz : takeV tl0 from_ round heard = (5, 0) := zero_take _ _ _
  unfold takeT at h1
  rw [hz, if_neg (by decide)] at h1
  rw [hz] at he
  exact ⟨base', cap', he, h1, hk⟩
theorem Ready_zero {w : World} {B lo cap : Nat} {base : Option Addr} (h : TlAt w B lo base cap tl0) : Calls Try.prog 23 #[.pointer (some ⟨B, 0, none⟩)] w fun e w' => e = .returned (.bool false) ∧ w' = w := Ready_at h
theorem Need_zero {w : World} {B lo cap : Nat} {base : Option Addr} (h : TlAt w B lo base cap tl0) : Calls Try.prog 60 #[.pointer (some ⟨B, 0, none⟩)] w fun e w' => e = .returned (.int .i64 0) ∧ w' = w := Need_at h
theorem Have_zero {w : World} {B lo cap : Nat} {base : Option Addr} (h : TlAt w B lo base cap tl0) : Calls Try.prog 61 #[.pointer (some ⟨B, 0, none⟩)] w fun e w' => e = .returned (.int .i64 0) ∧ w' = w := Have_at h
theorem Heards_zero {w : World} {B lo cap : Nat} {base : Option Addr} (h : TlAt w B lo base cap tl0) : Calls Try.prog 54 #[.pointer (some ⟨B, 0, none⟩)] w (clonePost [] w) := Heards_at h (by decide)
theorem Repliers_zero {w : World} {B lo cap : Nat} {base : Option Addr} (h : TlAt w B lo base cap tl0) : Calls Try.prog 53 #[.pointer (some ⟨B, 0, none⟩)] w fun e w' => e = .returned (.agg #[.int .u32 0, .int .u32 0, .int .u32 0, .int .u32 0]) ∧ Below w.heap.size w w' := by
  have := Repliers_at h
  simpa only [show tl0.rep = 0#128 from rfl, Ear.wd_zero] using this
theorem Repliers_none (w : World) : Calls Try.prog 53 #[.pointer none] w fun e w' => e = .returned (.agg #[.int .u32 0, .int .u32 0, .int .u32 0, .int .u32 0]) ∧ Below w.heap.size w w' := by
  have := Repliers_nil w
  simpa only [Ear.wd_zero] using this
theorem tl0_new {W : World} {B : Nat} (hB : B = W.heap.size) (lo : Nat) : TlAt (W.alloc (.cells #[.int .i64 0, .int .i64 0, .int .i64 0, .int .u32 0, .int .u32 0, .int .u32 0, .int .u32 0, .slice none 0 0] 78)) B lo none 0 tl0 := by subst hB; exact tl_new W 0 0 0 lo
attribute [local irreducible] tl0
end Go.Proofs.Ytfnolmlmmimehaa
