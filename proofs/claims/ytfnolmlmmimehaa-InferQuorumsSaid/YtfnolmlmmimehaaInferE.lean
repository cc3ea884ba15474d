/-
  What the law InferCovers comes to.
-/
import Derived.Test.YtfnolmlmmimehaaInferD
namespace Go.Proofs.Ytfnolmlmmimehaa
set_option linter.unusedSimpArgs false
set_option linter.unusedVariables false
open Go.RowKit
attribute [local irreducible] Ear.wd Ear.one Ear.clean unionL coverTo allIn
attribute [local go_sem] eqSetV eqSet
def coverR (n f : Int) (l : List (BitVec 128)) : BitVec 128 × Int := if n < 1 ∨ 100 < n ∨ f < 0 ∨ n ≤ f then (0#128, 1) else if allIn n l = true then (coverTo f l n.toNat, 0) else (0#128, 74)
theorem Cover_eq {n f : Int} {l : List (BitVec 128)} {m : BitVec 128} {c : Int} (h : coverR n f l = (m, c)) (base : Option Addr) (cap : Nat) (w : World) (hn : l.length ≤ 100000) (hl : LiesV (setsV l) base w) :
    Calls Try.prog 27 #[.int .i64 n, .int .i64 f, .slice base l.length cap] w fun e w' => e = .returned (.tuple #[.agg #[.int .u32 (Ear.wd (m) 0), .int .u32 (Ear.wd (m) 1), .int .u32 (Ear.wd (m) 2), .int .u32 (Ear.wd (m) 3)], .int .i64 c]) ∧ Below w.heap.size w w' := by
  unfold coverR at h
  by_cases h1 : n < 1 ∨ 100 < n ∨ f < 0 ∨ n ≤ f
  · rw [if_pos h1] at h
    obtain ⟨rfl, rfl⟩ := Prod.mk.inj h
    have := Cover_arg n f l.length base cap w h1
    simp only [Ear.wd_zero]
    exact this
  · rw [if_neg h1] at h
    exact Cover_in n f l base cap w (by omega) (by omega) (by omega) (by omega) hn hl h
theorem RCover_eq {n f : Int} {l : List (BitVec 128)} {m : BitVec 128} {c : Int} (h : coverR n f l = (m, c)) (base : Option Addr) (cap : Nat) (w : World) (hn : l.length ≤ 100000) (hl : LiesV (setsV l) base w) :
    Calls Try.prog 28 #[.int .i64 n, .int .i64 f, .slice base l.length cap] w fun e w' => e = .returned (.tuple #[.agg #[.int .u32 (Ear.wd (m) 0), .int .u32 (Ear.wd (m) 1), .int .u32 (Ear.wd (m) 2), .int .u32 (Ear.wd (m) 3)], .int .i64 c]) ∧ Below w.heap.size w w' := by
  unfold coverR at h
  by_cases h1 : n < 1 ∨ 100 < n ∨ f < 0 ∨ n ≤ f
  · rw [if_pos h1] at h
    obtain ⟨rfl, rfl⟩ := Prod.mk.inj h
    have := RCover_arg n f l.length base cap w h1
    simp only [Ear.wd_zero]
    exact this
  · rw [if_neg h1] at h
    exact RCover_in n f l base cap w (by omega) (by omega) (by omega) (by omega) hn hl h
attribute [local irreducible] coverR
set_option maxRecDepth 100000 in
set_option maxHeartbeats 4000000 in
theorem InferCovers_calls (n f : Int) (l : List (BitVec 128)) (base : Option Addr) (cap : Nat) (w : World) (hl : LiesV (setsV l) base w) :
    Calls Try.prog 6 #[.int .i64 n, .int .i64 f, .slice base l.length cap] w fun e w' => e = .returned (.bool true) ∧ Below w.heap.size w w' := by
  have HL := Lib.hid hl
  clear hl
  by_cases h : 300 < l.length
  · have h1 : decide ((300 : Int) < (l.length : Int)) = true := decide_eq_true (by omega)
    clear h
    go_enter Try.func6, Try.ntmps6
    go_wp2_with (go_at_call 10; (with_reducible refine Calls.mono (alive14 _) ?_); rintro e w1 ⟨rfl, hb1⟩; have hB' : Below w.heap.size w w1 := Below.trans (by (repeat' (first | (with_reducible exact Below.refl _ _) | (with_reducible assumption) | (show Below 0 _ _; with_reducible refine Below.mono (by assumption) (Nat.zero_le _)) | (with_reducible refine below_setRow ?_ ?_ _) | (with_reducible refine Below.alloc ?_ ?_ _) | (with_reducible refine Below.drew ?_) | (with_reducible refine Below.setCell ?_ ?_ _) | (with_reducible refine Below.frame ?_ _) | (with_reducible exact Nat.le_refl _) | omega | (simp only [World.size_alloc, World.size_setCell, World.size_drew, setRow_size]; omega) | (simp; omega) | (simp; done)))) (hb1.mono (by (try simp only [World.size_alloc, World.size_setCell, World.size_drew, setRow_size]); omega)); clear hb1; (try clear hB hs); have hB := hB'; clear hB'; have hs := hB.size)
    go_ret
    exact ⟨rfl, hB⟩
  · have h1 : decide ((300 : Int) < (l.length : Int)) = false := decide_eq_false (by omega)
    have hn : l.length ≤ 100000 := by omega
    obtain ⟨⟨m, c⟩, hmc⟩ : ∃ x, coverR n f l = x := ⟨_, rfl⟩
    have HM := Lib.hid hmc
    have e1 : (c == c) = true := beq_self_eq_true _
    clear h hmc
    go_enter Try.func6, Try.ntmps6
    go_wp2_with (first
      | (go_at_call 27; (with_reducible refine Calls.mono (Cover_eq HM.out _ _ _ hn (HL.out.below (by (repeat' (first | (with_reducible exact Below.refl _ _) | (with_reducible assumption) | (show Below 0 _ _; with_reducible refine Below.mono (by assumption) (Nat.zero_le _)) | (with_reducible refine below_setRow ?_ ?_ _) | (with_reducible refine Below.alloc ?_ ?_ _) | (with_reducible refine Below.drew ?_) | (with_reducible refine Below.setCell ?_ ?_ _) | (with_reducible refine Below.frame ?_ _) | (with_reducible exact Nat.le_refl _) | omega | (simp only [World.size_alloc, World.size_setCell, World.size_drew, setRow_size]; omega) | (simp; omega) | (simp; done)))))) ?_); rintro e w1 ⟨rfl, hb1⟩; have hB' : Below w.heap.size w w1 := Below.trans (by (repeat' (first | (with_reducible exact Below.refl _ _) | (with_reducible assumption) | (show Below 0 _ _; with_reducible refine Below.mono (by assumption) (Nat.zero_le _)) | (with_reducible refine below_setRow ?_ ?_ _) | (with_reducible refine Below.alloc ?_ ?_ _) | (with_reducible refine Below.drew ?_) | (with_reducible refine Below.setCell ?_ ?_ _) | (with_reducible refine Below.frame ?_ _) | (with_reducible exact Nat.le_refl _) | omega | (simp only [World.size_alloc, World.size_setCell, World.size_drew, setRow_size]; omega) | (simp; omega) | (simp; done)))) (hb1.mono (by (try simp only [World.size_alloc, World.size_setCell, World.size_drew, setRow_size]); omega)); clear hb1; (try clear hB hs); have hB := hB'; clear hB'; have hs := hB.size)
      | (go_at_call 28; (with_reducible refine Calls.mono (RCover_eq HM.out _ _ _ hn (HL.out.below (by (repeat' (first | (with_reducible exact Below.refl _ _) | (with_reducible assumption) | (show Below 0 _ _; with_reducible refine Below.mono (by assumption) (Nat.zero_le _)) | (with_reducible refine below_setRow ?_ ?_ _) | (with_reducible refine Below.alloc ?_ ?_ _) | (with_reducible refine Below.drew ?_) | (with_reducible refine Below.setCell ?_ ?_ _) | (with_reducible refine Below.frame ?_ _) | (with_reducible exact Nat.le_refl _) | omega | (simp only [World.size_alloc, World.size_setCell, World.size_drew, setRow_size]; omega) | (simp; omega) | (simp; done)))))) ?_); rintro e w2 ⟨rfl, hb2⟩; have hB' : Below w.heap.size w w2 := Below.trans (by (repeat' (first | (with_reducible exact Below.refl _ _) | (with_reducible assumption) | (show Below 0 _ _; with_reducible refine Below.mono (by assumption) (Nat.zero_le _)) | (with_reducible refine below_setRow ?_ ?_ _) | (with_reducible refine Below.alloc ?_ ?_ _) | (with_reducible refine Below.drew ?_) | (with_reducible refine Below.setCell ?_ ?_ _) | (with_reducible refine Below.frame ?_ _) | (with_reducible exact Nat.le_refl _) | omega | (simp only [World.size_alloc, World.size_setCell, World.size_drew, setRow_size]; omega) | (simp; omega) | (simp; done)))) (hb2.mono (by (try simp only [World.size_alloc, World.size_setCell, World.size_drew, setRow_size]); omega)); have ha' := (show Ear.Blk w2 (w1.heap.size) _ _ from by (repeat' (first | (show Ear.Blk _ _ _ _; with_reducible assumption) | (with_reducible exact Ear.Blk.new _ _ _) | (with_reducible refine Ear.Blk.new' ?_; (simp only [World.size_alloc, World.size_setCell, World.size_drew, setRow_size]; done)) | (with_reducible apply Ear.Blk.alloc) | (with_reducible apply Ear.Blk.drew) | (with_reducible apply Ear.Blk.setC) | (with_reducible apply Ear.Blk.setC' (e := by omega)) | (with_reducible apply Ear.Blk.rowC (e := by first | rfl | omega)) | (with_reducible apply Ear.Blk.otherRow) | (with_reducible apply Ear.Blk.other) | (with_reducible apply Ear.Blk.below (hb := hb2)) | (show _ ≠ _; (try simp only [World.size_alloc, World.size_setCell, World.size_drew, setRow_size]); omega) | (show _ < _; (try simp only [World.size_alloc, World.size_setCell, World.size_drew, setRow_size]); omega)))); clear hb2; (try clear ha_l); (try clear ha_c); (try clear ha_f); (try clear ha); have ha := ha'; clear ha'; (try simp only [List.set_cons_zero, List.set_cons_succ] at ha); have ha_l := ha.lt; have ha_c := ha.cell; have ha_f := ha.frozen; (try clear hB hs); have hB := hB'; clear hB'; have hs := hB.size)
      | (go_at_call 10; (with_reducible refine Calls.mono (alive14 _) ?_); rintro e w3 ⟨rfl, hb3⟩; have hB' : Below w.heap.size w w3 := Below.trans (by (repeat' (first | (with_reducible exact Below.refl _ _) | (with_reducible assumption) | (show Below 0 _ _; with_reducible refine Below.mono (by assumption) (Nat.zero_le _)) | (with_reducible refine below_setRow ?_ ?_ _) | (with_reducible refine Below.alloc ?_ ?_ _) | (with_reducible refine Below.drew ?_) | (with_reducible refine Below.setCell ?_ ?_ _) | (with_reducible refine Below.frame ?_ _) | (with_reducible exact Nat.le_refl _) | omega | (simp only [World.size_alloc, World.size_setCell, World.size_drew, setRow_size]; omega) | (simp; omega) | (simp; done)))) (hb3.mono (by (try simp only [World.size_alloc, World.size_setCell, World.size_drew, setRow_size]); omega)); have ha' := (show Ear.Blk w3 (w1.heap.size) _ _ from by (repeat' (first | (show Ear.Blk _ _ _ _; with_reducible assumption) | (with_reducible exact Ear.Blk.new _ _ _) | (with_reducible refine Ear.Blk.new' ?_; (simp only [World.size_alloc, World.size_setCell, World.size_drew, setRow_size]; done)) | (with_reducible apply Ear.Blk.alloc) | (with_reducible apply Ear.Blk.drew) | (with_reducible apply Ear.Blk.setC) | (with_reducible apply Ear.Blk.setC' (e := by omega)) | (with_reducible apply Ear.Blk.rowC (e := by first | rfl | omega)) | (with_reducible apply Ear.Blk.otherRow) | (with_reducible apply Ear.Blk.other) | (with_reducible apply Ear.Blk.below (hb := hb3)) | (show _ ≠ _; (try simp only [World.size_alloc, World.size_setCell, World.size_drew, setRow_size]); omega) | (show _ < _; (try simp only [World.size_alloc, World.size_setCell, World.size_drew, setRow_size]); omega)))); have hb' := (show Ear.Blk w3 (w2.heap.size) _ _ from by (repeat' (first | (show Ear.Blk _ _ _ _; with_reducible assumption) | (with_reducible exact Ear.Blk.new _ _ _) | (with_reducible refine Ear.Blk.new' ?_; (simp only [World.size_alloc, World.size_setCell, World.size_drew, setRow_size]; done)) | (with_reducible apply Ear.Blk.alloc) | (with_reducible apply Ear.Blk.drew) | (with_reducible apply Ear.Blk.setC) | (with_reducible apply Ear.Blk.setC' (e := by omega)) | (with_reducible apply Ear.Blk.rowC (e := by first | rfl | omega)) | (with_reducible apply Ear.Blk.otherRow) | (with_reducible apply Ear.Blk.other) | (with_reducible apply Ear.Blk.below (hb := hb3)) | (show _ ≠ _; (try simp only [World.size_alloc, World.size_setCell, World.size_drew, setRow_size]); omega) | (show _ < _; (try simp only [World.size_alloc, World.size_setCell, World.size_drew, setRow_size]); omega)))); clear hb3; (try clear ha_l); (try clear ha_c); (try clear ha_f); (try clear ha); have ha := ha'; clear ha'; (try simp only [List.set_cons_zero, List.set_cons_succ] at ha); have ha_l := ha.lt; have ha_c := ha.cell; have ha_f := ha.frozen; (try clear hb_l); (try clear hb_c); (try clear hb_f); (try clear hb); have hb := hb'; clear hb'; (try simp only [List.set_cons_zero, List.set_cons_succ] at hb); have hb_l := hb.lt; have hb_c := hb.cell; have hb_f := hb.frozen; (try clear hB hs); have hB := hB'; clear hB'; have hs := hB.size))
    go_ret
    exact ⟨by simp, hB⟩
end Go.Proofs.Ytfnolmlmmimehaa
