/-
  A note's Kind, Sender and Notices, for each of the three kinds.
-/
import Derived.Test.YtklfkfnckdeifaaWireF
import Derived.Test.YtklfkfnckdeifaaBookY
namespace Go.Proofs.Ytklfkfnckdeifaa
set_option linter.unusedSimpArgs false
set_option linter.unusedVariables false
open Go.RowKit
attribute [local irreducible] Ear.Pl.wpQ Ear.Pa.wpQ Ear.Fe.wpQ Ear.Fa.wpQ Ear.wd Ear.one Ear.clean
/-- Clone of notices, wherever they lie. -/
theorem eqNilNa (a : Addr) (n c : Nat) (W : World) : Sem.run Try.prog (binOp BinOp.eql 31 (.slice (some a) n c) (.slice none 0 0)) W = .ok (.bool false) W := by kernel_rfl
theorem eqNilNn (n c : Nat) (W : World) : Sem.run Try.prog (binOp BinOp.eql 31 (.slice none n c) (.slice none 0 0)) W = .ok (.bool true) W := by kernel_rfl
attribute [local go_sem] eqNilNa eqNilNn
abbrev newsPost (w : World) (L : List Nt) (e : Ending) (w' : World) : Prop :=
  ∃ base cap, e = .returned (.slice base L.length cap) ∧ w'.ownsRow w.heap.size 84 3 (.slice base L.length cap) L.length (ntsV L) ∧ Below w.heap.size w w'
set_option maxRecDepth 100000 in
set_option maxHeartbeats 1000000 in
theorem NClone_v (L : List Nt) (nb : Option Addr) (nc : Nat) (w : World) (hl : LiesV (ntsV L) nb w) (hn : L.length ≤ 100000) :
    Calls Try.prog 96 #[.slice nb L.length nc] w (newsPost w L) := by
  obtain ⟨i0, hi, hz0, hz1, hz2⟩ := info_parts info_nt
  have HI := Lib.hid hi
  have HZ0 := Lib.hid hz0
  have HZ1 := Lib.hid hz1
  have HZ2 := Lib.hid hz2
  have HL := Lib.hid hl
  have HLL := Lib.hid (ntsV_len L)
  clear hi hz0 hz1 hz2 hl
  cases nb with
  | none =>
    have hL0 : L = [] := by
      cases L with
      | nil => rfl
      | cons x t => obtain ⟨B, o, he, -⟩ := HL.out 0 (by simp [ntsV, ntV]); cases he
    subst hL0
    go_enter Try.func96, Try.ntmps96
    go_wp2
    go_ret
    exact ⟨none, 0, rfl, World.ownsRow_nil _ _ _ _, Below.refl _ _⟩
  | some ad =>
    go_enter Try.func96, Try.ntmps96
    go_wp2_with (at_builtin; refine wpList_append_own _ rfl _ _ 31 rfl w.heap.size 84 i0 _ 3 24 Try.underlying31 HI.out HZ0.out HZ1.out HZ2.out rfl (by decide) _ 0 [] rfl (World.ownsRow_made w #[] 0 (Nat.le_refl _) (by simp) rfl) ad L.length nc (ntsV L) rfl HLL.out ?c1 (ntsV_one L) ?c3 ?c4 ?c5 ?_)
    case c1 =>
      intro j u hj
      have hjl : j < (ntsV L).length := (List.getElem?_eq_some_iff.1 hj).1
      obtain ⟨B, o, he, hBl, hcell⟩ := HL.out j hjl
      simp only [Option.some.injEq] at he
      subst he
      rw [show (⟨B, o, none⟩ : Addr).add j = ⟨B, o + j, none⟩ from by unfold Addr.add; by_cases h : j = 0 <;> simp [h], ← hj, ← hcell]
      exact World.cell?_of_block (Below.heap_alloc w _ B hBl)
    case c3 => unfold maxLen; omega
    case c4 => omega
    case c5 => first | omega | (simp; done) | (simp; omega)
    intro v' w3 hown' hgrow _
    obtain ⟨base', cap', rfl⟩ := owns_slice hown'
    have HO := Lib.hid hown'
    have hB3 : Below w.heap.size w w3 := ((Below.refl _ w).alloc (Nat.le_refl _) _).grown hgrow (by simp) (fun j hj => by simp [Value.ownBlock] at hj; omega)
    clear hown' hgrow
    go_wp2
    go_ret
    exact ⟨base', cap', by simp, by simpa using HO.out, hB3⟩
set_option maxHeartbeats 1000000 in
theorem KindOfQ (from_ round : Int) (L : List Nt) (nb : Option Addr) (nc : Nat) (w : World) : Calls Try.prog 46 #[.agg #[.int .i64 from_, .int .i64 round, .slice nb L.length nc]] w fun e w' => e = .returned (.int .i64 1) ∧ Below w.heap.size w w' := by
  go_enter Try.func46, Try.ntmps46
  go_wp2
  go_ret
  exact ⟨rfl, by (repeat' (first | (with_reducible exact Below.refl _ _) | (with_reducible assumption) | (show Below 0 _ _; with_reducible refine Below.mono (by assumption) (Nat.zero_le _)) | (with_reducible refine below_setRow ?_ ?_ _) | (with_reducible refine Below.alloc ?_ ?_ _) | (with_reducible refine Below.drew ?_) | (with_reducible refine Below.setCell ?_ ?_ _) | (with_reducible refine Below.frame ?_ _) | (with_reducible exact Nat.le_refl _) | omega | (simp only [World.size_alloc, World.size_setCell, World.size_drew, setRow_size]; omega) | (simp; omega) | (simp; done)))⟩
set_option maxHeartbeats 1000000 in
theorem SenderQ (from_ round : Int) (L : List Nt) (nb : Option Addr) (nc : Nat) (w : World) : Calls Try.prog 94 #[.agg #[.int .i64 from_, .int .i64 round, .slice nb L.length nc]] w fun e w' => e = .returned (.int .i64 from_) ∧ Below w.heap.size w w' := by
  go_enter Try.func94, Try.ntmps94
  go_wp2
  go_ret
  exact ⟨rfl, by (repeat' (first | (with_reducible exact Below.refl _ _) | (with_reducible assumption) | (show Below 0 _ _; with_reducible refine Below.mono (by assumption) (Nat.zero_le _)) | (with_reducible refine below_setRow ?_ ?_ _) | (with_reducible refine Below.alloc ?_ ?_ _) | (with_reducible refine Below.drew ?_) | (with_reducible refine Below.setCell ?_ ?_ _) | (with_reducible refine Below.frame ?_ _) | (with_reducible exact Nat.le_refl _) | omega | (simp only [World.size_alloc, World.size_setCell, World.size_drew, setRow_size]; omega) | (simp; omega) | (simp; done)))⟩
set_option maxRecDepth 100000 in
set_option maxHeartbeats 1000000 in
theorem NoticesQ (from_ round : Int) {L : List Nt} {nb : Option Addr} (nc : Nat) {w : World} (hl : LiesV (ntsV L) nb w) (hn : L.length ≤ 100000) : Calls Try.prog 93 #[.agg #[.int .i64 from_, .int .i64 round, .slice nb L.length nc]] w (newsPost w L) := by
  have HL := Lib.hid hl
  clear hl
  go_enter Try.func93, Try.ntmps93
  go_wp2_with (go_at_call 96; (with_reducible refine Calls.mono (NClone_v L nb nc _ (HL.out.below (by (repeat' (first | (with_reducible exact Below.refl _ _) | (with_reducible assumption) | (show Below 0 _ _; with_reducible refine Below.mono (by assumption) (Nat.zero_le _)) | (with_reducible refine below_setRow ?_ ?_ _) | (with_reducible refine Below.alloc ?_ ?_ _) | (with_reducible refine Below.drew ?_) | (with_reducible refine Below.setCell ?_ ?_ _) | (with_reducible refine Below.frame ?_ _) | (with_reducible exact Nat.le_refl _) | omega | (simp only [World.size_alloc, World.size_setCell, World.size_drew, setRow_size]; omega) | (simp; omega) | (simp; done))))) hn) ?_); rintro e w2 ⟨b2, c2, rfl, hown2, hb2⟩; have hq1 : w.heap.size ≤ (w.alloc (.cells #[.int .i64 from_, .int .i64 round, .slice nb L.length nc] 55)).heap.size := (by (try simp only [World.size_alloc, World.size_setCell, World.size_drew, setRow_size]); omega); have HO := Lib.hid (owns_base hown2 hq1); have hB : Below w.heap.size w w2 := Below.trans (by (repeat' (first | (with_reducible exact Below.refl _ _) | (with_reducible assumption) | (show Below 0 _ _; with_reducible refine Below.mono (by assumption) (Nat.zero_le _)) | (with_reducible refine below_setRow ?_ ?_ _) | (with_reducible refine Below.alloc ?_ ?_ _) | (with_reducible refine Below.drew ?_) | (with_reducible refine Below.setCell ?_ ?_ _) | (with_reducible refine Below.frame ?_ _) | (with_reducible exact Nat.le_refl _) | omega | (simp only [World.size_alloc, World.size_setCell, World.size_drew, setRow_size]; omega) | (simp; omega) | (simp; done)))) (hb2.mono (by (try simp only [World.size_alloc, World.size_setCell, World.size_drew, setRow_size]); omega)); clear hown2 hb2)
  go_ret
  exact ⟨b2, c2, rfl, HO.out, hB⟩
set_option maxHeartbeats 1000000 in
theorem KindOfP (from_ round : Int) (heard : BitVec 128) (L : List Nt) (nb : Option Addr) (nc : Nat) (w : World) : Calls Try.prog 47 #[.agg #[.int .i64 from_, .int .i64 round, .int .u32 (Ear.wd heard 0), .int .u32 (Ear.wd heard 1), .int .u32 (Ear.wd heard 2), .int .u32 (Ear.wd heard 3), .slice nb L.length nc]] w fun e w' => e = .returned (.int .i64 2) ∧ Below w.heap.size w w' := by
  go_enter Try.func47, Try.ntmps47
  go_wp2
  go_ret
  exact ⟨rfl, by (repeat' (first | (with_reducible exact Below.refl _ _) | (with_reducible assumption) | (show Below 0 _ _; with_reducible refine Below.mono (by assumption) (Nat.zero_le _)) | (with_reducible refine below_setRow ?_ ?_ _) | (with_reducible refine Below.alloc ?_ ?_ _) | (with_reducible refine Below.drew ?_) | (with_reducible refine Below.setCell ?_ ?_ _) | (with_reducible refine Below.frame ?_ _) | (with_reducible exact Nat.le_refl _) | omega | (simp only [World.size_alloc, World.size_setCell, World.size_drew, setRow_size]; omega) | (simp; omega) | (simp; done)))⟩
set_option maxHeartbeats 1000000 in
theorem SenderP (from_ round : Int) (heard : BitVec 128) (L : List Nt) (nb : Option Addr) (nc : Nat) (w : World) : Calls Try.prog 99 #[.agg #[.int .i64 from_, .int .i64 round, .int .u32 (Ear.wd heard 0), .int .u32 (Ear.wd heard 1), .int .u32 (Ear.wd heard 2), .int .u32 (Ear.wd heard 3), .slice nb L.length nc]] w fun e w' => e = .returned (.int .i64 from_) ∧ Below w.heap.size w w' := by
  go_enter Try.func99, Try.ntmps99
  go_wp2
  go_ret
  exact ⟨rfl, by (repeat' (first | (with_reducible exact Below.refl _ _) | (with_reducible assumption) | (show Below 0 _ _; with_reducible refine Below.mono (by assumption) (Nat.zero_le _)) | (with_reducible refine below_setRow ?_ ?_ _) | (with_reducible refine Below.alloc ?_ ?_ _) | (with_reducible refine Below.drew ?_) | (with_reducible refine Below.setCell ?_ ?_ _) | (with_reducible refine Below.frame ?_ _) | (with_reducible exact Nat.le_refl _) | omega | (simp only [World.size_alloc, World.size_setCell, World.size_drew, setRow_size]; omega) | (simp; omega) | (simp; done)))⟩
set_option maxRecDepth 100000 in
set_option maxHeartbeats 1000000 in
theorem NoticesP (from_ round : Int) (heard : BitVec 128) {L : List Nt} {nb : Option Addr} (nc : Nat) {w : World} (hl : LiesV (ntsV L) nb w) (hn : L.length ≤ 100000) : Calls Try.prog 98 #[.agg #[.int .i64 from_, .int .i64 round, .int .u32 (Ear.wd heard 0), .int .u32 (Ear.wd heard 1), .int .u32 (Ear.wd heard 2), .int .u32 (Ear.wd heard 3), .slice nb L.length nc]] w (newsPost w L) := by
  have HL := Lib.hid hl
  clear hl
  go_enter Try.func98, Try.ntmps98
  go_wp2_with (go_at_call 96; (with_reducible refine Calls.mono (NClone_v L nb nc _ (HL.out.below (by (repeat' (first | (with_reducible exact Below.refl _ _) | (with_reducible assumption) | (show Below 0 _ _; with_reducible refine Below.mono (by assumption) (Nat.zero_le _)) | (with_reducible refine below_setRow ?_ ?_ _) | (with_reducible refine Below.alloc ?_ ?_ _) | (with_reducible refine Below.drew ?_) | (with_reducible refine Below.setCell ?_ ?_ _) | (with_reducible refine Below.frame ?_ _) | (with_reducible exact Nat.le_refl _) | omega | (simp only [World.size_alloc, World.size_setCell, World.size_drew, setRow_size]; omega) | (simp; omega) | (simp; done))))) hn) ?_); rintro e w2 ⟨b2, c2, rfl, hown2, hb2⟩; have hq1 : w.heap.size ≤ (w.alloc (.cells #[.int .i64 from_, .int .i64 round, .int .u32 (Ear.wd heard 0), .int .u32 (Ear.wd heard 1), .int .u32 (Ear.wd heard 2), .int .u32 (Ear.wd heard 3), .slice nb L.length nc] 58)).heap.size := (by (try simp only [World.size_alloc, World.size_setCell, World.size_drew, setRow_size]); omega); have HO := Lib.hid (owns_base hown2 hq1); have hB : Below w.heap.size w w2 := Below.trans (by (repeat' (first | (with_reducible exact Below.refl _ _) | (with_reducible assumption) | (show Below 0 _ _; with_reducible refine Below.mono (by assumption) (Nat.zero_le _)) | (with_reducible refine below_setRow ?_ ?_ _) | (with_reducible refine Below.alloc ?_ ?_ _) | (with_reducible refine Below.drew ?_) | (with_reducible refine Below.setCell ?_ ?_ _) | (with_reducible refine Below.frame ?_ _) | (with_reducible exact Nat.le_refl _) | omega | (simp only [World.size_alloc, World.size_setCell, World.size_drew, setRow_size]; omega) | (simp; omega) | (simp; done)))) (hb2.mono (by (try simp only [World.size_alloc, World.size_setCell, World.size_drew, setRow_size]); omega)); clear hown2 hb2)
  go_ret
  exact ⟨b2, c2, rfl, HO.out, hB⟩
set_option maxHeartbeats 1000000 in
theorem KindOfU (from_ : Int) (L : List Nt) (nb : Option Addr) (nc : Nat) (w : World) : Calls Try.prog 48 #[.agg #[.int .i64 from_, .slice nb L.length nc]] w fun e w' => e = .returned (.int .i64 3) ∧ Below w.heap.size w w' := by
  go_enter Try.func48, Try.ntmps48
  go_wp2
  go_ret
  exact ⟨rfl, by (repeat' (first | (with_reducible exact Below.refl _ _) | (with_reducible assumption) | (show Below 0 _ _; with_reducible refine Below.mono (by assumption) (Nat.zero_le _)) | (with_reducible refine below_setRow ?_ ?_ _) | (with_reducible refine Below.alloc ?_ ?_ _) | (with_reducible refine Below.drew ?_) | (with_reducible refine Below.setCell ?_ ?_ _) | (with_reducible refine Below.frame ?_ _) | (with_reducible exact Nat.le_refl _) | omega | (simp only [World.size_alloc, World.size_setCell, World.size_drew, setRow_size]; omega) | (simp; omega) | (simp; done)))⟩
set_option maxHeartbeats 1000000 in
theorem SenderU (from_ : Int) (L : List Nt) (nb : Option Addr) (nc : Nat) (w : World) : Calls Try.prog 103 #[.agg #[.int .i64 from_, .slice nb L.length nc]] w fun e w' => e = .returned (.int .i64 from_) ∧ Below w.heap.size w w' := by
  go_enter Try.func103, Try.ntmps103
  go_wp2
  go_ret
  exact ⟨rfl, by (repeat' (first | (with_reducible exact Below.refl _ _) | (with_reducible assumption) | (show Below 0 _ _; with_reducible refine Below.mono (by assumption) (Nat.zero_le _)) | (with_reducible refine below_setRow ?_ ?_ _) | (with_reducible refine Below.alloc ?_ ?_ _) | (with_reducible refine Below.drew ?_) | (with_reducible refine Below.setCell ?_ ?_ _) | (with_reducible refine Below.frame ?_ _) | (with_reducible exact Nat.le_refl _) | omega | (simp only [World.size_alloc, World.size_setCell, World.size_drew, setRow_size]; omega) | (simp; omega) | (simp; done)))⟩
set_option maxRecDepth 100000 in
set_option maxHeartbeats 1000000 in
theorem NoticesU (from_ : Int) {L : List Nt} {nb : Option Addr} (nc : Nat) {w : World} (hl : LiesV (ntsV L) nb w) (hn : L.length ≤ 100000) : Calls Try.prog 102 #[.agg #[.int .i64 from_, .slice nb L.length nc]] w (newsPost w L) := by
  have HL := Lib.hid hl
  clear hl
  go_enter Try.func102, Try.ntmps102
  go_wp2_with (go_at_call 96; (with_reducible refine Calls.mono (NClone_v L nb nc _ (HL.out.below (by (repeat' (first | (with_reducible exact Below.refl _ _) | (with_reducible assumption) | (show Below 0 _ _; with_reducible refine Below.mono (by assumption) (Nat.zero_le _)) | (with_reducible refine below_setRow ?_ ?_ _) | (with_reducible refine Below.alloc ?_ ?_ _) | (with_reducible refine Below.drew ?_) | (with_reducible refine Below.setCell ?_ ?_ _) | (with_reducible refine Below.frame ?_ _) | (with_reducible exact Nat.le_refl _) | omega | (simp only [World.size_alloc, World.size_setCell, World.size_drew, setRow_size]; omega) | (simp; omega) | (simp; done))))) hn) ?_); rintro e w2 ⟨b2, c2, rfl, hown2, hb2⟩; have hq1 : w.heap.size ≤ (w.alloc (.cells #[.int .i64 from_, .slice nb L.length nc] 61)).heap.size := (by (try simp only [World.size_alloc, World.size_setCell, World.size_drew, setRow_size]); omega); have HO := Lib.hid (owns_base hown2 hq1); have hB : Below w.heap.size w w2 := Below.trans (by (repeat' (first | (with_reducible exact Below.refl _ _) | (with_reducible assumption) | (show Below 0 _ _; with_reducible refine Below.mono (by assumption) (Nat.zero_le _)) | (with_reducible refine below_setRow ?_ ?_ _) | (with_reducible refine Below.alloc ?_ ?_ _) | (with_reducible refine Below.drew ?_) | (with_reducible refine Below.setCell ?_ ?_ _) | (with_reducible refine Below.frame ?_ _) | (with_reducible exact Nat.le_refl _) | omega | (simp only [World.size_alloc, World.size_setCell, World.size_drew, setRow_size]; omega) | (simp; omega) | (simp; done)))) (hb2.mono (by (try simp only [World.size_alloc, World.size_setCell, World.size_drew, setRow_size]); omega)); clear hown2 hb2)
  go_ret
  exact ⟨b2, c2, rfl, HO.out, hB⟩
end Go.Proofs.Ytklfkfnckdeifaa
