/-
  The reader of bytes: need, bytes, numberOf, number.
-/
import Derived.Test.YtklfkfnckdeifaaWireF
import Derived.Test.YtklfkfnckdeifaaBookT
import Derived.WalkLawsBesides
namespace Go.Proofs.Ytklfkfnckdeifaa
set_option linter.unusedSimpArgs false
set_option linter.unusedVariables false
open Go.RowKit
attribute [local irreducible] Ear.Pl.wpQ Ear.Pa.wpQ Ear.Fe.wpQ Ear.Fa.wpQ
/-- What a reader gives up with. -/
abbrev boomE (c : Int) : Ending := .panicked [{ v := .iface 85 (.int .i64 c), recovered := false }]
theorem need_ok (c : Int) (w : World) : Calls Try.prog 53 #[.bool true, .int .i64 c] w fun e w' => e = .returned (.tuple #[]) ∧ w' = w := by
  go_enter Try.func53, Try.ntmps53
  go_wp2
  go_end0
  exact ⟨rfl, rfl⟩
theorem need_no (c : Int) (w : World) : Calls Try.prog 53 #[.bool false, .int .i64 c] w fun e w' => e = boomE c ∧ w' = w := by
  go_enter Try.func53, Try.ntmps53
  go_wp2
  exact ⟨rfl, rfl, rfl⟩
/-- A reader that has read k of the bytes. -/
structure RdAt (w : World) (R B o cap k : Nat) (l : List Int) : Prop where
  blk : ∃ q, (k < cap → q = o + k) ∧ Ear.Blk w R 89 [.slice (some ⟨B, o, none⟩) l.length cap, .slice (some ⟨B, q, none⟩) (l.length - k) (cap - k)]
  lies : LiesV (bytesV l) (some ⟨B, o, none⟩) w
  ne : B ≠ R
  le : k ≤ l.length
  cap : l.length ≤ cap
theorem keepR (W : World) (X i : Nat) (v : Value) : Ear.Keep (fun k => k = X) W (W.setCell ⟨X, i, none⟩ v) := Ear.Keep.setCell (S := fun k => k = X) (p := ⟨X, i, none⟩) (Ear.Keep.refl _ _) (.inl rfl) v
theorem adv_slice (B o k : Nat) : (⟨B, o, none⟩ : Addr).add k = ⟨B, o + k, none⟩ := by unfold Addr.add; by_cases h : k = 0 <;> simp [h]
set_option maxRecDepth 100000 in
set_option maxHeartbeats 1000000 in
theorem rbytes_ok {w : World} {R B o cap k : Nat} {l : List Int} {n : Int} (h : RdAt w R B o cap k l) (m : Nat) (hm : (m : Int) = n) (h1 : 1 ≤ m) (hn : k + m ≤ l.length) :
    Calls Try.prog 52 #[.pointer (some ⟨R, 0, none⟩), .int .i64 n] w fun e w' => e = .returned (.slice (some ⟨B, o + k, none⟩) m (cap - k)) ∧ RdAt w' R B o cap (k + m) l ∧ Ear.Keep (fun b => b = R) w w' := by
  obtain ⟨⟨q, hq, hx⟩, h2, h3, h4, h5⟩ := h
  obtain rfl : q = o + k := hq (by omega)
  have hx_l := hx.lt
  have hx_c := hx.cell
  have hx_f := hx.frozen
  subst hm
  have hd : decide (m ≤ l.length - k) = true := decide_eq_true (by omega)
  go_enter Try.func52, Try.ntmps52
  go_wp2_with (first | (go_at_call 53; (with_reducible refine Calls.mono (need_ok _ _) ?_); rintro e w1 ⟨rfl, he⟩; subst w1))
  · go_ret
    exact ⟨rfl, ⟨⟨o + k, fun _ => by omega, Ear.Blk.renew (Ear.Blk.setC hx) (by simp only [List.set_cons_zero, List.set_cons_succ]; rw [show l.length - k - m = l.length - (k + m) by omega, show cap - (k + m) = 0 by omega])⟩, LiesV.keepA h2 (keepR w R 1 _) (by rintro _ rfl; right; intro o' h; injection h with h; injection h with h; exact h3 h), h3, hn, h5⟩, keepR w R 1 _⟩
  · go_ret
    exact ⟨rfl, ⟨⟨o + k + m, fun _ => by omega, Ear.Blk.renew (Ear.Blk.setC hx) (by simp only [List.set_cons_zero, List.set_cons_succ]; rw [Nat.sub_sub, Nat.sub_sub])⟩, LiesV.keepA h2 (keepR w R 1 _) (by rintro _ rfl; right; intro o' h; injection h with h; injection h with h; exact h3 h), h3, hn, h5⟩, keepR w R 1 _⟩
set_option maxRecDepth 100000 in
set_option maxHeartbeats 1000000 in
theorem rbytes_short {w : World} {R B o cap k : Nat} {l : List Int} {n : Int} (h : RdAt w R B o cap k l) (m : Nat) (hm : (m : Int) = n) (hn : l.length < k + m) :
    Calls Try.prog 52 #[.pointer (some ⟨R, 0, none⟩), .int .i64 n] w fun e w' => e = boomE 76 ∧ w' = w := by
  obtain ⟨⟨q, hq, hx⟩, h2, h3, h4, h5⟩ := h
  have hx_l := hx.lt
  have hx_c := hx.cell
  have hx_f := hx.frozen
  subst hm
  have hd : decide (m ≤ l.length - k) = false := decide_eq_false (by omega)
  go_enter Try.func52, Try.ntmps52
  go_wp2_with (first | (go_at_call 53; (with_reducible refine Calls.mono (need_no _ _) ?_); rintro e w1 ⟨rfl, he⟩; subst w1))
  exact ⟨rfl, rfl, rfl⟩
/-- The number of m bytes from k on. -/
def numK (l : List Int) (k : Nat) : Nat → Int
  | 0 => 0
  | m + 1 => numK l k m * 256 + l.getD (k + m) 0
theorem getD_at {l : List Int} {i : Nat} (h : i < l.length) : l.getD i 0 = l[i] := by simp [List.getD, h]
theorem getD_out {l : List Int} {i : Nat} (h : l.length ≤ i) : l.getD i 0 = 0 := by simp [List.getD, h]
theorem numK_in {l : List Int} (hb : byteOk l) (k : Nat) : ∀ m, 0 ≤ numK l k m ∧ numK l k m < 256 ^ m := by
  have hg : ∀ i, 0 ≤ l.getD i 0 ∧ l.getD i 0 < 256 := by
    intro i
    by_cases h : i < l.length
    · rw [getD_at h]; exact hb.get i h
    · rw [getD_out (by omega)]; omega
  intro m
  induction m with
  | zero => simp [numK]
  | succ m ih =>
    have := hg (k + m)
    unfold numK
    rw [Int.pow_succ]
    omega
theorem read_at {l : List Int} {B o : Nat} {w : World} (hl : LiesV (bytesV l) (some ⟨B, o, none⟩) w) (hb : byteOk l) (i : Nat) (h : i < l.length) :
    w.cell? ⟨B, o + i, none⟩ = some (.int .u8 (l.getD i 0)) ∧ 0 ≤ l.getD i 0 ∧ l.getD i 0 < 256 := by
  obtain ⟨B', o', he, hB', hc⟩ := hl i (by rw [bytesV_len]; exact h)
  simp only [Option.some.injEq, Addr.mk.injEq, and_true] at he
  obtain ⟨rfl, rfl⟩ := he
  rw [hc, bytesV_get _ _ h, getD_at h]
  exact ⟨rfl, hb.get i h⟩
theorem i64_or_small (a b : Nat) (ha : a < 1099511627776) (hb : b < 1099511627776) : Go.bits .or .i64 (a : Int) (b : Int) = ((a ||| b : Nat) : Int) := by
  show IntKind.i64.wrap (((BitVec.ofInt 64 (a : Int) ||| BitVec.ofInt 64 (b : Int)).toNat : Nat) : Int) = _
  have h1 : (BitVec.ofInt 64 (a : Int)).toNat = a := by rw [BitVec.toNat_ofInt]; omega
  have h2 : (BitVec.ofInt 64 (b : Int)).toNat = b := by rw [BitVec.toNat_ofInt]; omega
  have h3 : a ||| b < 2 ^ 40 := Nat.or_lt_two_pow (by omega) (by omega)
  rw [BitVec.toNat_or, h1, h2]
  generalize a ||| b = z at *
  simp only [IntKind.wrap, IntKind.bits, IntKind.signed]
  simp
  omega
theorem or_byte (x c : Int) (h0 : 0 ≤ x) (h1 : x < 4294967296) (c0 : 0 ≤ c) (c1 : c < 256) : Go.bits .or .i64 (x * 256) c = x * 256 + c := by
  obtain ⟨a, rfl⟩ : ∃ a : Nat, x = a := ⟨x.toNat, by omega⟩
  obtain ⟨b, rfl⟩ : ∃ b : Nat, c = b := ⟨c.toNat, by omega⟩
  have ha : a < 4294967296 := by omega
  have hbb : b < 256 := by omega
  have e : ((a : Int) * 256) = ((a * 256 : Nat) : Int) := by simp
  rw [e, i64_or_small (a * 256) b (by omega) (by omega)]
  have h := Nat.shiftLeft_add_eq_or_of_lt (i := 8) (b := b) (by omega) a
  rw [Nat.shiftLeft_eq] at h
  have h2 : a * 256 ||| b = a * 256 + b := h.symm
  rw [h2]; simp
theorem num_step (l : List Int) (k j : Nat) (hb : byteOk l) (hj : j < 5) {x : Int} (hx : l.getD (k + j) 0 = x) (x0 : 0 ≤ x) (x1 : x < 256) : Go.bits .or .i64 (wrap64 (numK l k j * 256)) x = numK l k (j + 1) := by
  have h := numK_in hb k j
  have h2 : (256 : Int) ^ j ≤ 4294967296 := by
    rcases (by omega : j = 0 ∨ j = 1 ∨ j = 2 ∨ j = 3 ∨ j = 4) with rfl | rfl | rfl | rfl | rfl <;> decide
  have e : wrap64 (numK l k j * 256) = numK l k j * 256 := by simp only [wrap64]; omega
  rw [e, or_byte _ _ h.1 (by omega) x0 x1]
  show _ = numK l k j * 256 + l.getD (k + j) 0
  rw [hx]
set_option maxRecDepth 100000 in
set_option maxHeartbeats 2000000 in
theorem numberOf_calls {w : World} {B o cap k m : Nat} {l : List Int} (hl : LiesV (bytesV l) (some ⟨B, o, none⟩) w) (hb : byteOk l) (hn : k + m ≤ l.length) (h5 : m ≤ 5) :
    Calls Try.prog 62 #[.slice (some ⟨B, o + k, none⟩) m cap] w fun e w' => e = .returned (.int .i64 (numK l k m)) ∧ w' = w := by
  have HL := Lib.hid hl
  have HB := Lib.hid hb
  clear hl hb
  go_enter Try.func62, Try.ntmps62
  go_wp2
  go_loopw [3, 5, 8] (fun x _ i wr => ∃ j : Nat, j ≤ m ∧ i = .int .i64 j ∧ x = .int .i64 (numK l k j) ∧ wr = w) (fun _ _ i _ => m - (intOf i).toNat)
  case atStart => exact ⟨0, by omega, rfl, rfl, rfl⟩
  case round =>
    obtain ⟨j, hj, rfl, rfl, rfl⟩ := hrel
    by_cases hlt : j < m
    · obtain ⟨a0, x0, x1⟩ := read_at HL.out HB.out (k + j) (by omega)
      rw [← Nat.add_assoc] at a0
      generalize hx : l.getD (k + j) 0 = x at a0 x0 x1
      have HS := Lib.hid (num_step l k j HB.out (by omega) hx x0 x1)
      go_wp2
      exact ⟨⟨j + 1, by omega, rfl, by rw [HS.out], trivial⟩, by simp [intOf]; omega⟩
    · have : j = m := by omega
      subst this
      go_wp2
      go_ret
      exact ⟨rfl, rfl⟩
attribute [local irreducible] numK
set_option maxRecDepth 100000 in
set_option maxHeartbeats 1000000 in
theorem rnum_ok {w : World} {R B o cap k : Nat} {l : List Int} {n : Int} (h : RdAt w R B o cap k l) (hb : byteOk l) (m : Nat) (hm : (m : Int) = n) (h1 : 1 ≤ m) (h5 : m ≤ 5) (hn : k + m ≤ l.length) :
    Calls Try.prog 54 #[.pointer (some ⟨R, 0, none⟩), .int .i64 n] w fun e w' => e = .returned (.int .i64 (numK l k m)) ∧ RdAt w' R B o cap (k + m) l ∧ Ear.Keep (fun b => b = R) w w' := by
  have H := Lib.hid h
  have HB := Lib.hid hb
  clear h hb
  go_enter Try.func54, Try.ntmps54
  go_wp2_with (first
    | (go_at_call 52; (with_reducible refine Calls.mono (rbytes_ok H.out m hm h1 hn) ?_); rintro e w1 ⟨rfl, hr1, hk1⟩; have H1 := Lib.hid hr1; have HK := Lib.hid hk1; clear hr1 hk1)
    | (go_at_call 62; (with_reducible refine Calls.mono (numberOf_calls H1.out.lies HB.out hn h5) ?_); rintro e w2 ⟨rfl, he⟩; subst w2))
  go_ret
  exact ⟨rfl, H1.out, HK.out⟩
set_option maxRecDepth 100000 in
set_option maxHeartbeats 1000000 in
theorem rnum_short {w : World} {R B o cap k : Nat} {l : List Int} {n : Int} (h : RdAt w R B o cap k l) (m : Nat) (hm : (m : Int) = n) (hn : l.length < k + m) :
    Calls Try.prog 54 #[.pointer (some ⟨R, 0, none⟩), .int .i64 n] w fun e w' => e = boomE 76 ∧ w' = w := by
  have H := Lib.hid h
  clear h
  go_enter Try.func54, Try.ntmps54
  go_wp2_with (go_at_call 52; (with_reducible refine Calls.mono (rbytes_short H.out m hm hn) ?_); rintro e w1 ⟨rfl, he⟩; subst w1)
  exact ⟨rfl, rfl, rfl⟩
end Go.Proofs.Ytklfkfnckdeifaa
