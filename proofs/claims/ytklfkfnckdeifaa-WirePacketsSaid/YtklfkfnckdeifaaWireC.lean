/-
  What put, and a form's bytes, come to.
-/
import Derived.Test.YtklfkfnckdeifaaWireB
import Derived.Laws.EntriesVeiled
namespace Go.Proofs.Ytklfkfnckdeifaa
set_option linter.unusedSimpArgs false
set_option linter.unusedVariables false
open Go.RowKit
attribute [local irreducible] Ear.Pl.wpQ Ear.Pa.wpQ Ear.Fe.wpQ Ear.Fa.wpQ sumP sumV
/-- The byte i of a number. -/
def digit (x : Int) (i : Nat) : Int := (x / (2 ^ (8 * i) : Int)) % 256
/-- A number of n bytes, the highest one first: its first k ones. -/
def putL (x : Int) (n : Nat) (k : Nat) : List Int := (List.range k).map fun j => digit x (n - 1 - j)
theorem putL_zero (x : Int) (n : Nat) : putL x n 0 = [] := rfl
theorem putL_succ (x : Int) (n k : Nat) : putL x n (k + 1) = putL x n k ++ [digit x (n - 1 - k)] := by unfold putL; rw [List.range_succ, List.map_append]; rfl
theorem putL_len (x : Int) (n k : Nat) : (putL x n k).length = k := by simp [putL]
/-- The blocks of bytes from a place on. -/
def U8 (lo : Nat) (w : World) : Nat → Prop := fun k => lo ≤ k ∧ ∃ cur fz, w.heap[k]? = some (.cells cur 5 fz)
theorem keep_u8 {lo n : Nat} {w W W' : World} {v : Value} {xs : List Value} (hk : Ear.Keep (U8 lo w) w W) (h : W.ownsRow lo 5 1 v n xs) (hg : W.grownBy W' v.ownBlock) : Ear.Keep (U8 lo w) w W' := by
  refine hk.grown hg ?_
  intro k hv
  obtain ⟨hl, ⟨rfl, -⟩ | ⟨g, cap', cur, rfl, hb, hc, -⟩⟩ := h
  · cases hv
  · simp only [Value.ownBlock, Option.some.injEq] at hv
    subst hv
    by_cases hlt : g < w.heap.size
    · left
      by_cases hS : U8 lo w g
      · exact hS
      · have := hk.block g hlt hS
        rw [hc] at this
        exact absurd ⟨hb, _, _, this.symm⟩ hS
    · right; omega
theorem dg0 (x : Int) : digit x 0 = x % 256 := by unfold digit; simp
theorem dg1 (x : Int) : digit x 1 = x / 256 % 256 := rfl
theorem dg2 (x : Int) : digit x 2 = x / 65536 % 256 := rfl
theorem dg3 (x : Int) : digit x 3 = x / 16777216 % 256 := rfl
theorem dg4 (x : Int) : digit x 4 = x / 4294967296 % 256 := rfl
theorem dg5 (x : Int) : digit x 5 = x / 1099511627776 % 256 := rfl
theorem dg6 (x : Int) : digit x 6 = x / 281474976710656 % 256 := rfl
attribute [local irreducible] digit putL
set_option maxRecDepth 100000 in
set_option maxHeartbeats 4000000 in
theorem Put_calls {lo cap : Nat} {base : Option Addr} {w : World} (l : List Int) (x : Int) (n : Nat) (hx : 0 ≤ x ∧ x ≤ 9223372036854775807) (h8 : n ≤ 7) (hn : l.length ≤ 100000) (h : w.ownsRow lo 5 1 (.slice base l.length cap) l.length (bytesV l)) (hlo : lo ≤ w.heap.size) :
    Calls Try.prog 60 #[.slice base l.length cap, .int .i64 x, .int .i64 n] w fun e w' => ∃ base' cap', e = .returned (.slice base' (l.length + n) cap') ∧ w'.ownsRow lo 5 1 (.slice base' (l.length + n) cap') (l.length + n) (bytesV (l ++ putL x n n)) ∧ Ear.Keep (U8 lo w) w w' := by
  obtain ⟨i0, hi, hz0, hz1, hz2⟩ := info_parts info_u8
  have HI := Lib.hid hi
  have HZ0 := Lib.hid hz0
  have HZ1 := Lib.hid hz1
  have HZ2 := Lib.hid hz2
  have HX := Lib.hid hx
  have HOW := Lib.hid h
  clear hi hz0 hz1 hz2 hx h
  go_enter Try.func60, Try.ntmps60
  go_wp2
  go_loopw [0, 7] (fun b i wr => ∃ (k : Nat) (base' : Option Addr) (cap' : Nat), k ≤ n ∧ i = .int .i64 ((n : Int) - 1 - k) ∧ b = .slice base' (l.length + k) cap' ∧ Hid (wr.ownsRow lo 5 1 (.slice base' (l.length + k) cap') (l.length + k) (bytesV (l ++ putL x n k))) ∧ Hid (Ear.Keep (U8 lo w) w wr)) (fun _ i _ => ((intOf i) + 1).toNat)
  case atStart => exact ⟨0, base, cap, by omega, by go_num, rfl, by rw [putL_zero, List.append_nil]; exact HOW, Ear.Keep.refl _ _⟩
  case round =>
    obtain ⟨k, base', cap', hk, rfl, rfl, HO, HKP⟩ := hrel
    by_cases hlt : k < n
    · obtain ⟨i, hi⟩ : ∃ i : Nat, (n : Int) - 1 - k = (i : Int) := ⟨n - 1 - k, by omega⟩
      have hi7 : i ≤ 6 := by omega
      rw [hi]
      have hps : bytesV (l ++ putL x n (k + 1)) = bytesV (l ++ putL x n k) ++ [.int .u8 (digit x i)] := by
        rw [putL_succ, ← List.append_assoc, bytesV_append, show n - 1 - k = i by omega]; rfl
      have HPS := Lib.hid hps
      clear hps
      have hx0 := HX.out.1
      have h7 : i = 0 ∨ i = 1 ∨ i = 2 ∨ i = 3 ∨ i = 4 ∨ i = 5 ∨ i = 6 := by omega
      rcases h7 with rfl | rfl | rfl | rfl | rfl | rfl | rfl
      all_goals
        go_wp2_with (at_builtin; refine wpList_append_own _ rfl _ _ 22 rfl lo 5 i0 _ 1 1 Try.underlying22 HI.out HZ0.out HZ1.out HZ2.out rfl (by decide) _ _ _ rfl (HO.out.alloc _) ⟨wr.heap.size, 0, none⟩ 1 1 _ rfl rfl (Ear.cells_new wr _ _) ?c2 ?c3 ?c4 ?c5 ?_)
        case c2 => simp [Value.oneCell']
        case c3 => unfold maxLen; omega
        case c4 => omega
        case c5 => have := HKP.out.size; simp; omega
        intro v' w3 hown' hgrow _
        have hk3 := keep_u8 (HKP.out.alloc _) (HO.out.alloc _) hgrow
        obtain ⟨base2, cap2, rfl⟩ := owns_slice hown'
        have hown2 := Lib.hid hown'
        clear hown' hgrow
        go_wp2
        go_roundw
        case rel => exact ⟨k + 1, base2, cap2, hlt, by congr 1; omega, rfl, by rw [HPS.out]; simp only [dg0, dg1, dg2, dg3, dg4, dg5, dg6]; exact hown2.out, hk3⟩
        case measure => (simp [intOf]) <;> omega
    · have hkn : k = n := by omega
      subst hkn
      go_wp2
      go_ret
      exact ⟨base', cap', rfl, HO.out, HKP.out⟩
theorem Put_m {lo cap m r : Nat} {base : Option Addr} {w : World} {l l' : List Int} {x n' : Int} (n : Nat) (hn' : (n : Int) = n') (hm : l.length = m) (hr : m + n = r) (hL : l ++ putL x n n = l') (hx : 0 ≤ x ∧ x ≤ 9223372036854775807) (h8 : n ≤ 7) (hn : m ≤ 100000) (h : w.ownsRow lo 5 1 (.slice base m cap) m (bytesV l)) (hlo : lo ≤ w.heap.size) :
    Calls Try.prog 60 #[.slice base m cap, .int .i64 x, .int .i64 n'] w fun e w' => ∃ base' cap', e = .returned (.slice base' r cap') ∧ w'.ownsRow lo 5 1 (.slice base' r cap') r (bytesV l') ∧ Ear.Keep (U8 lo w) w w' := by
  subst hn' hm hr hL
  exact Put_calls l x n hx h8 hn h hlo
theorem Sum_m {l : List Int} {m : Nat} {v : Int} {base : Option Addr} {cap : Nat} {w : World} (hm : l.length = m) (hv : sumV l = v) (hb : byteOk l) (hn : m ≤ 100000) (hl : LiesV (bytesV l) base w) :
    Calls Try.prog 16 #[.slice base m cap] w fun e w' => e = .returned (.int .i64 v) ∧ Below w.heap.size w w' := by
  subst hm hv
  exact Sum_calls l base cap w hb (by omega) hl
end Go.Proofs.Ytklfkfnckdeifaa
