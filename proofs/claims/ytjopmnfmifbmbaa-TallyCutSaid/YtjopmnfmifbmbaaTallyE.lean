/-
  What alive and the law TallyNone come to.
-/
import Derived.Test.YtjopmnfmifbmbaaTallyD
namespace Go.Proofs.Ytjopmnfmifbmbaa
set_option linter.unusedSimpArgs false
set_option linter.unusedVariables false
open Go.RowKit
attribute [local go_sem] eqNilP eqNilN eqSet
theorem w15 : .agg #[.int .u32 (Ear.wd (15#128) 0), .int .u32 (Ear.wd (15#128) 1), .int .u32 (Ear.wd (15#128) 2), .int .u32 (Ear.wd (15#128) 3)] = Value.agg #[.int .u32 15, .int .u32 0, .int .u32 0, .int .u32 0] := by
  have e0 : Ear.wd 15#128 0 = 15 := by decide
  have e1 : Ear.wd 15#128 1 = 0 := by decide
  have e2 : Ear.wd 15#128 2 = 0 := by decide
  have e3 : Ear.wd 15#128 3 = 0 := by decide
  rw [e0, e1, e2, e3]
theorem w1_ : .agg #[.int .u32 (Ear.wd (1#128) 0), .int .u32 (Ear.wd (1#128) 1), .int .u32 (Ear.wd (1#128) 2), .int .u32 (Ear.wd (1#128) 3)] = Value.agg #[.int .u32 1, .int .u32 0, .int .u32 0, .int .u32 0] := by
  have e0 : Ear.wd 1#128 0 = 1 := by decide
  have e1 : Ear.wd 1#128 1 = 0 := by decide
  have e2 : Ear.wd 1#128 2 = 0 := by decide
  have e3 : Ear.wd 1#128 3 = 0 := by decide
  rw [e0, e1, e2, e3]
theorem w5 : .agg #[.int .u32 (Ear.wd (5#128) 0), .int .u32 (Ear.wd (5#128) 1), .int .u32 (Ear.wd (5#128) 2), .int .u32 (Ear.wd (5#128) 3)] = Value.agg #[.int .u32 5, .int .u32 0, .int .u32 0, .int .u32 0] := by
  have e0 : Ear.wd 5#128 0 = 5 := by decide
  have e1 : Ear.wd 5#128 1 = 0 := by decide
  have e2 : Ear.wd 5#128 2 = 0 := by decide
  have e3 : Ear.wd 5#128 3 = 0 := by decide
  rw [e0, e1, e2, e3]
def tl1 : Tl := ⟨4, 3, 7, 4#128, [15#128]⟩
def tl2 : Tl := ⟨4, 3, 7, 5#128, [15#128, 1#128]⟩
theorem new_alive : newE 4 1 2 7 15#128 = 0 := by decide +kernel
theorem newT_alive : newT 4 1 2 7 15#128 = tl1 := by
  have : withV 0#128 2 = 4#128 := by decide +kernel
  unfold newT Tl.add tl1
  rw [this]; rfl
theorem take_alive : takeV tl1 0 7 1#128 = (1, 0) := by decide +kernel
theorem takeT_alive : takeT tl1 0 7 1#128 = tl2 := by
  have h : withV 4#128 0 = 5#128 := by decide +kernel
  unfold takeT
  rw [take_alive, if_pos rfl]
  unfold Tl.add tl1 tl2
  simp only [h]; rfl
theorem New_alive (w : World) : Calls Try.prog 11 #[.int .i64 4, .int .i64 1, .int .i64 2, .int .i64 7, .agg #[.int .u32 15, .int .u32 0, .int .u32 0, .int .u32 0]] w fun e w' =>
    ∃ B base cap, e = .returned (.tuple #[.pointer (some ⟨B, 0, none⟩), .int .i64 0]) ∧ w.heap.size ≤ B ∧ TlAt w' B w.heap.size base cap tl1 ∧ Below w.heap.size w w' := by
  rw [← w15]
  refine (New_calls 4 1 2 7 15#128 w).mono ?_
  rintro e w' ⟨hb, -, hg⟩
  obtain ⟨B, base, cap, he, h1, h2⟩ := hg new_alive
  rw [newT_alive] at h2
  exact ⟨B, base, cap, he, h1, h2, hb⟩
theorem Take_alive {w : World} {B lo cap : Nat} {base : Option Addr} (h : TlAt w B lo base cap tl1) (hlo : lo ≤ w.heap.size) : Calls Try.prog 13 #[.pointer (some ⟨B, 0, none⟩), .int .i64 0, .int .i64 7, .agg #[.int .u32 1, .int .u32 0, .int .u32 0, .int .u32 0]] w fun e w' =>
    ∃ base' cap', e = .returned (.tuple #[.int .i64 1, .int .i64 0]) ∧ TlAt w' B lo base' cap' tl2 ∧ Ear.Keep (TlS B base) w w' := by
  rw [← w1_]
  refine (Take_calls 0 7 1#128 h hlo (by decide)).mono ?_
  rintro e w' ⟨he, ⟨base', cap', h1, _⟩, hk⟩
  rw [takeT_alive] at h1
  rw [take_alive] at he
  exact ⟨base', cap', he, h1, hk⟩
theorem tlS_lo {w : World} {B lo cap n : Nat} {base : Option Addr} {t : Tl} (h : TlAt w B lo base cap t) (hB : n ≤ B) (hlo : n ≤ lo) : ∀ k, TlS B base k → n ≤ k := by
  rintro k (rfl | hk)
  · exact hB
  · have := (h.own.lt k (by rw [ownBlock_of]; exact hk)).1; omega

theorem Need_alive {w : World} {B lo cap : Nat} {base : Option Addr} (h : TlAt w B lo base cap tl2) : Calls Try.prog 22 #[.pointer (some ⟨B, 0, none⟩)] w fun e w' => e = .returned (.int .i64 3) ∧ w' = w := Need_at h
theorem Have_alive {w : World} {B lo cap : Nat} {base : Option Addr} (h : TlAt w B lo base cap tl2) : Calls Try.prog 21 #[.pointer (some ⟨B, 0, none⟩)] w fun e w' => e = .returned (.int .i64 2) ∧ w' = w := Have_at h
theorem Repliers_alive {w : World} {B lo cap : Nat} {base : Option Addr} (h : TlAt w B lo base cap tl2) : Calls Try.prog 15 #[.pointer (some ⟨B, 0, none⟩)] w fun e w' => e = .returned (.agg #[.int .u32 5, .int .u32 0, .int .u32 0, .int .u32 0]) ∧ Below w.heap.size w w' := by
  rw [← w5]; exact Repliers_at h
attribute [local irreducible] Ear.wd Ear.one Ear.clean withV withE hasV tl1 tl2
set_option maxRecDepth 100000 in
set_option maxHeartbeats 4000000 in
theorem alive_calls (w : World) : Calls Try.prog 12 #[] w fun e w' => e = .returned (.bool true) ∧ Below w.heap.size w w' := by
  go_enter Try.func12, Try.ntmps12
  go_wp2_with (first | (go_at_call 11; (with_reducible refine Calls.mono (New_alive _) ?_); rintro e w1 ⟨B, base, cap, rfl, hBl, hat, hb1⟩; have H := Lib.hid hat; clear hat) | (go_at_call 13; (with_reducible refine Calls.mono (Take_alive H.out (by have := hb1.size; omega)) ?_); rintro e w2 ⟨base', cap', rfl, hat, hk⟩; have hB2 := Ear.Keep.below hb1 hk hb1.size (tlS_lo H.out hBl (Nat.le_refl _)); clear H; have H := Lib.hid hat; clear hat hk) | (go_at_call 22; refine (Need_alive H.out).mono ?_; rintro e w' ⟨rfl, rfl⟩) | (go_at_call 21; refine (Have_alive H.out).mono ?_; rintro e w' ⟨rfl, rfl⟩) | (go_at_call 15; (with_reducible refine Calls.mono (Repliers_alive H.out) ?_); rintro e w3 ⟨rfl, hb3⟩; have hB3 : Below w.heap.size w w3 := hB2.trans (hb3.mono hB2.size)))
  go_ret
  exact ⟨rfl, hB3⟩

theorem zero_take (from_ round : Int) (heard : BitVec 128) : takeV ⟨0, 0, 0, 0#128, []⟩ from_ round heard = (5, 0) := by
  unfold takeV
  rw [if_pos]
  by_cases h : from_ < 0
  · simp [h]
  · simp; omega
def tl0 : Tl := ⟨0, 0, 0, 0#128, []⟩
theorem Take_zero {w : World} {B lo cap : Nat} {base : Option Addr} (from_ round : Int) (heard : BitVec 128) (h : TlAt w B lo base cap tl0) (hlo : lo ≤ w.heap.size) : Calls Try.prog 13 #[.pointer (some ⟨B, 0, none⟩), .int .i64 from_, .int .i64 round, .agg #[.int .u32 (Ear.wd (heard) 0), .int .u32 (Ear.wd (heard) 1), .int .u32 (Ear.wd (heard) 2), .int .u32 (Ear.wd (heard) 3)]] w fun e w' =>
    ∃ base' cap', e = .returned (.tuple #[.int .i64 5, .int .i64 0]) ∧ TlAt w' B lo base' cap' tl0 ∧ Ear.Keep (TlS B base) w w' := by
  refine (Take_calls from_ round heard h hlo (by decide)).mono ?_
  rintro e w' ⟨he, ⟨base', cap', h1, _⟩, hk⟩
  have hz : takeV tl0 from_ round heard = (5, 0) := zero_take _ _ _
  unfold takeT at h1
  rw [hz, if_neg (by decide)] at h1
  rw [hz] at he
  exact ⟨base', cap', he, h1, hk⟩
theorem Ready_zero {w : World} {B lo cap : Nat} {base : Option Addr} (h : TlAt w B lo base cap tl0) : Calls Try.prog 20 #[.pointer (some ⟨B, 0, none⟩)] w fun e w' => e = .returned (.bool false) ∧ w' = w := Ready_at h
theorem Need_zero {w : World} {B lo cap : Nat} {base : Option Addr} (h : TlAt w B lo base cap tl0) : Calls Try.prog 22 #[.pointer (some ⟨B, 0, none⟩)] w fun e w' => e = .returned (.int .i64 0) ∧ w' = w := Need_at h
theorem Have_zero {w : World} {B lo cap : Nat} {base : Option Addr} (h : TlAt w B lo base cap tl0) : Calls Try.prog 21 #[.pointer (some ⟨B, 0, none⟩)] w fun e w' => e = .returned (.int .i64 0) ∧ w' = w := Have_at h
theorem Heards_zero {w : World} {B lo cap : Nat} {base : Option Addr} (h : TlAt w B lo base cap tl0) : Calls Try.prog 14 #[.pointer (some ⟨B, 0, none⟩)] w (clonePost [] w) := Heards_at h (by decide)
theorem Repliers_zero {w : World} {B lo cap : Nat} {base : Option Addr} (h : TlAt w B lo base cap tl0) : Calls Try.prog 15 #[.pointer (some ⟨B, 0, none⟩)] w fun e w' => e = .returned (.agg #[.int .u32 0, .int .u32 0, .int .u32 0, .int .u32 0]) ∧ Below w.heap.size w w' := by
  have := Repliers_at h
  simpa only [show tl0.rep = 0#128 from rfl, Ear.wd_zero] using this
theorem Repliers_none (w : World) : Calls Try.prog 15 #[.pointer none] w fun e w' => e = .returned (.agg #[.int .u32 0, .int .u32 0, .int .u32 0, .int .u32 0]) ∧ Below w.heap.size w w' := by
  have := Repliers_nil w
  simpa only [Ear.wd_zero] using this
theorem tl0_new {W : World} {B : Nat} (hB : B = W.heap.size) (lo : Nat) : TlAt (W.alloc (.cells #[.int .i64 0, .int .i64 0, .int .i64 0, .int .u32 0, .int .u32 0, .int .u32 0, .int .u32 0, .slice none 0 0] 58)) B lo none 0 tl0 := by subst hB; exact tl_new W 0 0 0 lo
attribute [local irreducible] tl0
set_option maxRecDepth 100000 in
set_option maxHeartbeats 4000000 in
theorem TallyNone_calls (from_ round : Int) (heard : BitVec 128) (w : World) : Calls Try.prog 5 #[.int .i64 from_, .int .i64 round, .agg #[.int .u32 (Ear.wd (heard) 0), .int .u32 (Ear.wd (heard) 1), .int .u32 (Ear.wd (heard) 2), .int .u32 (Ear.wd (heard) 3)]] w fun e w' => e = .returned (.bool true) ∧ Below w.heap.size w w' := by
  go_enter Try.func5, Try.ntmps5
  go_wp2_with fail
  refine Calls.mono (Take_zero from_ round heard (tl0_new (by simp) w.heap.size) (by simp; omega)) ?_
  rintro e w1 ⟨base, cap, rfl, hat, hk⟩
  have hB : Below w.heap.size w w1 := Ear.Keep.below (by (repeat' (first | (with_reducible exact Below.refl _ _) | (with_reducible assumption) | (show Below 0 _ _; with_reducible refine Below.mono (by assumption) (Nat.zero_le _)) | (with_reducible refine below_setRow ?_ ?_ _) | (with_reducible refine Below.alloc ?_ ?_ _) | (with_reducible refine Below.drew ?_) | (with_reducible refine Below.setCell ?_ ?_ _) | (with_reducible refine Below.frame ?_ _) | (with_reducible exact Nat.le_refl _) | omega | (simp only [World.size_alloc, World.size_setCell, World.size_drew, setRow_size]; omega) | (simp; omega) | (simp; done)))) hk (by simp; omega) (fun k hk => by
    rcases hk with rfl | hk
    · omega
    · cases hk)
  have hh : Ear.Blk w1 w.heap.size 24 [.int .u32 (Ear.wd (heard) 0), .int .u32 (Ear.wd (heard) 1), .int .u32 (Ear.wd (heard) 2), .int .u32 (Ear.wd (heard) 3)] := Ear.Blk.keep (by (repeat' (first | (show Ear.Blk _ _ _ _; with_reducible assumption) | (with_reducible exact Ear.Blk.new _ _ _) | (with_reducible refine Ear.Blk.new' ?_; (simp only [World.size_alloc, World.size_setCell, World.size_drew, setRow_size]; done)) | (with_reducible apply Ear.Blk.alloc) | (with_reducible apply Ear.Blk.drew) | (with_reducible apply Ear.Blk.setC) | (with_reducible apply Ear.Blk.setC' (e := by omega)) | (with_reducible apply Ear.Blk.rowC (e := by first | rfl | omega)) | (with_reducible apply Ear.Blk.otherRow) | (with_reducible apply Ear.Blk.other) | (show _ ≠ _; (try simp only [World.size_alloc, World.size_setCell, World.size_drew, setRow_size]); omega) | (show _ < _; (try simp only [World.size_alloc, World.size_setCell, World.size_drew, setRow_size]); omega)))) hk (by
    rintro (h | h)
    · omega
    · cases h)
  have hh_c := hh.cell
  have hh_l := hh.lt
  have H := Lib.hid hat
  have hs := hB.size
  clear hat hk hh
  go_wp2_with (first | (go_at_call 13; (with_reducible refine Calls.mono (Take_nil from_ round heard _) ?_); rintro e w2 ⟨rfl, hb2⟩; have H := Lib.hid (H.out.below hb2); have hB : Below w.heap.size w w2 := hB.trans (hb2.mono hB.size); clear hb2) | (go_at_call 12; (with_reducible refine Calls.mono (alive_calls _) ?_); rintro e w3 ⟨rfl, hb3⟩; have H := Lib.hid (H.out.below hb3); have hB : Below w.heap.size w w3 := hB.trans (hb3.mono hB.size); clear hb3) | (go_at_call 20; (with_reducible refine Calls.mono (Ready_nil _) ?_); rintro e w' ⟨rfl, rfl⟩) | (go_at_call 20; (with_reducible refine Calls.mono (Ready_zero H.out) ?_); rintro e w' ⟨rfl, rfl⟩) | (go_at_call 21; (with_reducible refine Calls.mono (Have_zero H.out) ?_); rintro e w' ⟨rfl, rfl⟩) | (go_at_call 22; (with_reducible refine Calls.mono (Need_nil _) ?_); rintro e w' ⟨rfl, rfl⟩) | (go_at_call 22; (with_reducible refine Calls.mono (Need_zero H.out) ?_); rintro e w' ⟨rfl, rfl⟩) | (go_at_call 14; (with_reducible refine Calls.mono (Heards_nil _) ?_); rintro e w4 ⟨base4, cap4, rfl, hown4, hb4⟩; clear hown4; have H := Lib.hid (H.out.below hb4); have hB : Below w.heap.size w w4 := hB.trans (hb4.mono hB.size); clear hb4) | (go_at_call 14; (with_reducible refine Calls.mono (Heards_zero H.out) ?_); rintro e w5 ⟨base5, cap5, rfl, hown5, hb5⟩; clear hown5; have H := Lib.hid (H.out.below hb5); have hB : Below w.heap.size w w5 := hB.trans (hb5.mono hB.size); clear hb5) | (go_at_call 15; (with_reducible refine Calls.mono (Repliers_none _) ?_); rintro e w6 ⟨rfl, hb6⟩; have H := Lib.hid (H.out.below hb6); have hB : Below w.heap.size w w6 := hB.trans (hb6.mono hB.size); clear hb6) | (go_at_call 15; (with_reducible refine Calls.mono (Repliers_zero H.out) ?_); rintro e w7 ⟨rfl, hb7⟩; have H := Lib.hid (H.out.below hb7); have hB : Below w.heap.size w w7 := hB.trans (hb7.mono hB.size); clear hb7))
  go_ret
  exact ⟨rfl, hB⟩
end Go.Proofs.Ytjopmnfmifbmbaa
