/-
  A tally in memory; what its small calls come to.
-/
import Derived.Test.YtfnolmlmmimehaaBookB
import Derived.Test.YtfnolmlmmimehaaEq
import Derived.WalkKit
import Derived.LoopTactic
import Derived.WalkSpells
import Derived.WalkLawsBesides
import Derived.Handy
import Derived.Lib.Hide
namespace Go.Proofs.Ytfnolmlmmimehaa
set_option linter.unusedSimpArgs false
set_option linter.unusedVariables false
open Go.RowKit
attribute [local irreducible] Ear.wd Ear.one Ear.clean
def setsV (l : List (BitVec 128)) : List Value := l.flatMap fun v => [.int .u32 (Ear.wd (v) 0), .int .u32 (Ear.wd (v) 1), .int .u32 (Ear.wd (v) 2), .int .u32 (Ear.wd (v) 3)]
theorem setsV_len (l : List (BitVec 128)) : (setsV l).length = l.length * 4 := by
  induction l with
  | nil => rfl
  | cons x t ih => simp only [setsV, List.flatMap_cons, List.length_append, List.length_cons, List.length_nil] at ih ⊢; omega
theorem setsV_snoc (l : List (BitVec 128)) (v : BitVec 128) : setsV (l ++ [v]) = setsV l ++ [.int .u32 (Ear.wd (v) 0), .int .u32 (Ear.wd (v) 1), .int .u32 (Ear.wd (v) 2), .int .u32 (Ear.wd (v) 3)] := by simp [setsV]
theorem setsV_get (l : List (BitVec 128)) (i j : Nat) (hi : i < l.length) (hj : j < 4) : (setsV l)[i * 4 + j]? = some (.int .u32 (Ear.wd l[i] j)) := by
  induction l generalizing i with
  | nil => simp at hi
  | cons x t ih =>
    have hc : setsV (x :: t) = [.int .u32 (Ear.wd (x) 0), .int .u32 (Ear.wd (x) 1), .int .u32 (Ear.wd (x) 2), .int .u32 (Ear.wd (x) 3)] ++ setsV t := by simp [setsV]
    rw [hc]
    cases i with
    | zero =>
      rw [List.getElem?_append_left (by simp; omega)]
      rcases (by omega : j = 0 ∨ j = 1 ∨ j = 2 ∨ j = 3) with rfl | rfl | rfl | rfl <;> rfl
    | succ i =>
      rw [List.getElem?_append_right (by simp; omega)]
      have := ih i (by simpa using hi)
      simp only [List.length_cons, List.length_nil, List.getElem_cons_succ]
      rw [← this]
      congr 1
      omega
/-- A tally, as data. -/
structure Tl where
  n : Int
  need : Int
  round : Int
  rep : BitVec 128
  hs : List (BitVec 128)
abbrev tlCells (t : Tl) (base : Option Addr) (cap : Nat) : List Value :=
  [.int .i64 t.n, .int .i64 t.need, .int .i64 t.round, .int .u32 (Ear.wd t.rep 0), .int .u32 (Ear.wd t.rep 1), .int .u32 (Ear.wd t.rep 2), .int .u32 (Ear.wd t.rep 3), .slice base t.hs.length cap]
/-- Where a tally lies. -/
structure TlAt (W : World) (B lo : Nat) (base : Option Addr) (cap : Nat) (t : Tl) : Prop where
  blk : Ear.Blk W B 78 (tlCells t base cap)
  own : W.ownsRow lo 26 4 (.slice base t.hs.length cap) t.hs.length (setsV t.hs)
/-- The blocks of a tally. -/
def blkOf (base : Option Addr) : Option Nat := base.map (·.block)
theorem ownBlock_of (base : Option Addr) (n c : Nat) : (Value.slice base n c).ownBlock = blkOf base := by cases base <;> rfl
def TlS (B : Nat) (base : Option Addr) (k : Nat) : Prop := k = B ∨ blkOf base = some k
theorem TlAt.below {W W' : World} {B lo cap : Nat} {base : Option Addr} {t : Tl} (h : TlAt W B lo base cap t) (hb : Below W.heap.size W W') : TlAt W' B lo base cap t :=
  ⟨h.blk.below hb h.blk.lt, owns_below h.own hb⟩
theorem eqNilP (b : Addr) (W : World) : Sem.run Try.prog (binOp BinOp.eql 31 (.pointer (some b)) (.pointer none)) W = .ok (.bool false) W := by kernel_rfl
theorem eqNilN (W : World) : Sem.run Try.prog (binOp BinOp.eql 31 (.pointer none) (.pointer none)) W = .ok (.bool true) W := by kernel_rfl
attribute [local go_sem] eqNilP eqNilN
theorem list_nil (w : World) : Calls Try.prog 82 #[.pointer none] w fun e w' => e = .returned (.slice none 0 0) ∧ w' = w := by
  go_enter Try.func82, Try.ntmps82
  go_wp2
  go_ret
  exact ⟨rfl, rfl⟩
theorem list_at {w : World} {B lo cap : Nat} {base : Option Addr} {t : Tl} (h : TlAt w B lo base cap t) : Calls Try.prog 82 #[.pointer (some ⟨B, 0, none⟩)] w fun e w' => e = .returned (.slice base t.hs.length cap) ∧ w' = w := by
  have hc := h.blk.cell
  clear h
  go_enter Try.func82, Try.ntmps82
  go_wp2
  go_ret
  exact ⟨rfl, rfl⟩
theorem Need_nil (w : World) : Calls Try.prog 60 #[.pointer none] w fun e w' => e = .returned (.int .i64 0) ∧ w' = w := by
  go_enter Try.func60, Try.ntmps60
  go_wp2
  go_ret
  exact ⟨rfl, rfl⟩
theorem Need_at {w : World} {B lo cap : Nat} {base : Option Addr} {t : Tl} (h : TlAt w B lo base cap t) : Calls Try.prog 60 #[.pointer (some ⟨B, 0, none⟩)] w fun e w' => e = .returned (.int .i64 t.need) ∧ w' = w := by
  have hc := h.blk.cell
  clear h
  go_enter Try.func60, Try.ntmps60
  go_wp2
  go_ret
  exact ⟨rfl, rfl⟩
theorem Have_nil (w : World) : Calls Try.prog 61 #[.pointer none] w fun e w' => e = .returned (.int .i64 0) ∧ w' = w := by
  go_enter Try.func61, Try.ntmps61
  go_wp2_with (go_at_call 82; refine (list_nil _).mono ?_; rintro e w' ⟨rfl, rfl⟩)
  go_ret
  exact ⟨rfl, rfl⟩
theorem Have_at {w : World} {B lo cap : Nat} {base : Option Addr} {t : Tl} (h : TlAt w B lo base cap t) : Calls Try.prog 61 #[.pointer (some ⟨B, 0, none⟩)] w fun e w' => e = .returned (.int .i64 t.hs.length) ∧ w' = w := by
  have H := Lib.hid h
  clear h
  go_enter Try.func61, Try.ntmps61
  go_wp2_with (go_at_call 82; refine (list_at H.out).mono ?_; rintro e w' ⟨rfl, rfl⟩)
  go_ret
  exact ⟨rfl, rfl⟩
def readyT (t : Tl) : Bool := decide (0 < t.need) && decide ((t.hs.length : Int) = t.need)
theorem Ready_nil (w : World) : Calls Try.prog 23 #[.pointer none] w fun e w' => e = .returned (.bool false) ∧ w' = w := by
  go_enter Try.func23, Try.ntmps23
  go_wp2_with (go_at_call 60; refine (Need_nil _).mono ?_; rintro e w' ⟨rfl, rfl⟩)
  go_ret
  exact ⟨rfl, rfl⟩
theorem Ready_at {w : World} {B lo cap : Nat} {base : Option Addr} {t : Tl} (h : TlAt w B lo base cap t) : Calls Try.prog 23 #[.pointer (some ⟨B, 0, none⟩)] w fun e w' => e = .returned (.bool (readyT t)) ∧ w' = w := by
  have H := Lib.hid h
  clear h
  by_cases h0 : 0 < t.need
  · by_cases h1 : (t.hs.length : Int) = t.need
    · have hd : ((t.hs.length : Int) == t.need) = true := beq_iff_eq.2 h1
      have hr : readyT t = true := by simp [readyT, h0, h1]
      have HR := Lib.hid hr
      clear h1 hr
      go_enter Try.func23, Try.ntmps23
      go_wp2_with (first | (go_at_call 60; refine (Need_at H.out).mono ?_; rintro e w' ⟨rfl, rfl⟩) | (go_at_call 61; refine (Have_at H.out).mono ?_; rintro e w' ⟨rfl, rfl⟩))
      go_ret
      exact ⟨by rw [HR.out]; rfl, rfl⟩
    · have hd : ((t.hs.length : Int) == t.need) = false := beq_eq_false_iff_ne.2 h1
      have hr : readyT t = false := by simp [readyT, h1]
      have HR := Lib.hid hr
      clear h1 hr
      go_enter Try.func23, Try.ntmps23
      go_wp2_with (first | (go_at_call 60; refine (Need_at H.out).mono ?_; rintro e w' ⟨rfl, rfl⟩) | (go_at_call 61; refine (Have_at H.out).mono ?_; rintro e w' ⟨rfl, rfl⟩))
      go_ret
      exact ⟨by rw [HR.out]; rfl, rfl⟩
  · have hr : readyT t = false := by simp [readyT, h0]
    have HR := Lib.hid hr
    clear hr
    go_enter Try.func23, Try.ntmps23
    go_wp2_with (go_at_call 60; refine (Need_at H.out).mono ?_; rintro e w' ⟨rfl, rfl⟩)
    go_ret
    exact ⟨by rw [HR.out]; rfl, rfl⟩
end Go.Proofs.Ytfnolmlmmimehaa
