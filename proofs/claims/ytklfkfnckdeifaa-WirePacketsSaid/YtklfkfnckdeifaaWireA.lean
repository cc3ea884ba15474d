/-
  Bytes as data; the sum of bytes.
-/
import Derived.Test.YtklfkfnckdeifaaIter
import Derived.Test.YtklfkfnckdeifaaRest
import Derived.Test.YtklfkfnckdeifaaBookB
namespace Go.Proofs.Ytklfkfnckdeifaa
set_option linter.unusedSimpArgs false
set_option linter.unusedVariables false
open Go.RowKit
attribute [local irreducible] Ear.Pl.wpQ Ear.Pa.wpQ Ear.Fe.wpQ Ear.Fa.wpQ
def bytesV (l : List Int) : List Value := l.map (Value.int .u8)
theorem bytesV_len (l : List Int) : (bytesV l).length = l.length := by simp [bytesV]
theorem bytesV_get (l : List Int) (k : Nat) (h : k < l.length) : (bytesV l)[k]? = some (.int .u8 l[k]) := by simp [bytesV, h]
theorem bytesV_append (l m : List Int) : bytesV (l ++ m) = bytesV l ++ bytesV m := by simp [bytesV]
theorem bytesV_one (l : List Int) : ∀ u ∈ bytesV l, u.oneCell' = true := by
  intro u hu
  unfold bytesV at hu
  obtain ⟨x, -, rfl⟩ := List.mem_map.1 hu
  rfl
/-- A byte. -/
def byteOk (l : List Int) : Prop := ∀ x ∈ l, 0 ≤ x ∧ x < 256
theorem byteOk.get {l : List Int} (h : byteOk l) (k : Nat) (hk : k < l.length) : 0 ≤ l[k] ∧ l[k] < 256 := h _ (List.getElem_mem hk)
/-- A byte of a list that lies there. -/
theorem byte_at {l : List Int} {base : Option Addr} {w w' : World} {n : Nat} (k : Nat) (hk : k < l.length) (hL : LiesV (bytesV l) base w) (hB : Below n w w') (hn : w.heap.size ≤ n) :
    ∃ B o, base = some ⟨B, o, none⟩ ∧ B < w'.heap.size ∧ w'.cell? ⟨B, o + k, none⟩ = some (.int .u8 l[k]) := by
  obtain ⟨B, o, he, hB', hc⟩ := hL k (by rw [bytesV_len]; exact hk)
  refine ⟨B, o, he, Nat.lt_of_lt_of_le hB' hB.size, ?_⟩


  rw [(hB.cell (p := ⟨B, o + k, none⟩) (Nat.lt_of_lt_of_le hB' hn)), hc]
  exact bytesV_get l k hk
def sumS (s : Int × Int) (x : Int) : Int × Int := ((s.1 + x) % 65521, (s.2 + (s.1 + x) % 65521) % 65521)
def sumP (l : List Int) : Int × Int := l.foldl sumS (1, 0)
def sumV (l : List Int) : Int := (sumP l).2 * 65536 + (sumP l).1
theorem sumP_zero (l : List Int) : sumP (l.take 0) = (1, 0) := by rw [List.take_zero]; rfl
theorem sumP_succ (l : List Int) (k : Nat) (h : k < l.length) : sumP (l.take (k + 1)) = sumS (sumP (l.take k)) l[k] := by
  unfold sumP; rw [List.take_succ_eq_append_getElem h, List.foldl_append]; rfl
theorem sumP_in (l : List Int) : (0 ≤ (sumP l).1 ∧ (sumP l).1 < 65521) ∧ 0 ≤ (sumP l).2 ∧ (sumP l).2 < 65521 := by
  have key : ∀ (l : List Int) (s : Int × Int), ((0 ≤ s.1 ∧ s.1 < 65521) ∧ 0 ≤ s.2 ∧ s.2 < 65521) → ((0 ≤ (l.foldl sumS s).1 ∧ (l.foldl sumS s).1 < 65521) ∧ 0 ≤ (l.foldl sumS s).2 ∧ (l.foldl sumS s).2 < 65521) := by
    intro l
    induction l with
    | nil => intro s h; exact h
    | cons a t ih =>
      intro s h
      refine ih _ ?_
      unfold sumS
      have h1 := Int.emod_nonneg (s.1 + a) (show (65521 : Int) ≠ 0 by decide)
      have h2 := Int.emod_lt_of_pos (s.1 + a) (show (0 : Int) < 65521 by decide)
      have h3 := Int.emod_nonneg (s.2 + (s.1 + a) % 65521) (show (65521 : Int) ≠ 0 by decide)
      have h4 := Int.emod_lt_of_pos (s.2 + (s.1 + a) % 65521) (show (0 : Int) < 65521 by decide)
      exact ⟨⟨h1, h2⟩, h3, h4⟩
  exact key l (1, 0) (by decide)
theorem wrap_big (k n : Nat) (h : k < n) (hn : n ≤ 140737488355328) : wrap64 ((k : Int) + 1) = ((k + 1 : Nat) : Int) := by simp only [wrap64]; omega
theorem sumS_succ {l : List Int} {k : Nat} {P Q x : Int} (h : k < l.length) (hx : l[k] = x) (hp : sumP (l.take k) = (P, Q)) : sumP (l.take (k + 1)) = ((P + x) % 65521, (Q + (P + x) % 65521) % 65521) := by
  rw [sumP_succ l k h, hp, hx]; rfl
theorem sumV_of {l : List Int} {P Q : Int} (hp : sumP l = (P, Q)) : sumV l = Q * 65536 + P := by unfold sumV; rw [hp]
attribute [local irreducible] sumP sumV
set_option maxRecDepth 100000 in
set_option maxHeartbeats 2000000 in
theorem Sum_calls (l : List Int) (base : Option Addr) (cap : Nat) (w : World) (hb : byteOk l) (hn : l.length ≤ 140737488355328) (hl : LiesV (bytesV l) base w) :
    Calls Try.prog 16 #[.slice base l.length cap] w fun e w' => e = .returned (.int .i64 (sumV l)) ∧ Below w.heap.size w w' := by
  have HB := Lib.hid hb
  have HN := Lib.hid hn
  have HL := Lib.hid hl
  clear hb hn hl
  go_enter Try.func16, Try.ntmps16
  go_wp2
  go_loopw [3, 4, 6, 9] (fun p q _ i wr => ∃ (k : Nat) (P Q : Int), k ≤ l.length ∧ i = .int .i64 k ∧ p = .int .i64 P ∧ q = .int .i64 Q ∧ Hid (sumP (l.take k) = (P, Q)) ∧ Below w.heap.size w wr) (fun _ _ _ i _ => l.length - (intOf i).toNat)
  case atStart => exact ⟨0, 1, 0, by omega, rfl, rfl, rfl, sumP_zero l, Below.refl _ _⟩
  case round =>
    obtain ⟨k, P, Q, hkn, rfl, rfl, rfl, HP, hB⟩ := hrel
    obtain ⟨⟨p1, p2⟩, q1, q2⟩ := sumP_in (l.take k)
    rw [HP.out] at p1 p2 q1 q2
    dsimp only at p1 p2 q1 q2
    by_cases hlt : k < l.length
    · obtain ⟨x, hx⟩ : ∃ x, l[k] = x := ⟨_, rfl⟩
      obtain ⟨x0, x1⟩ := HB.out.get k hlt
      obtain ⟨B1, o1, rfl, hl1, a0⟩ := byte_at k hlt HL.out hB (Nat.le_refl _)
      rw [hx] at a0 x0 x1
      have HS := Lib.hid (sumS_succ hlt hx HP.out)
      have HW := Lib.hid (wrap_big k l.length hlt HN.out)
      clear hx
      go_wp2
      go_roundw
      case rel => exact ⟨k + 1, _, _, hlt, by rw [HW.out], rfl, rfl, HS, hB⟩
      case measure => rw [HW.out]; simp [intOf]; omega
    · have hkl : k = l.length := by omega
      subst hkl
      have ht : List.take l.length l = l := List.take_length
      rw [ht] at HP
      have HV := Lib.hid (sumV_of HP.out)
      go_wp2
      go_ret
      exact ⟨by rw [HV.out]; rfl, hB⟩
set_option maxRecDepth 100000 in
set_option maxHeartbeats 2000000 in
theorem RSum_calls (l : List Int) (base : Option Addr) (cap : Nat) (w : World) (hb : byteOk l) (hn : l.length ≤ 140737488355328) (hl : LiesV (bytesV l) base w) :
    Calls Try.prog 17 #[.slice base l.length cap] w fun e w' => e = .returned (.int .i64 (sumV l)) ∧ Below w.heap.size w w' := by
  have HB := Lib.hid hb
  have HN := Lib.hid hn
  have HL := Lib.hid hl
  clear hb hn hl
  go_enter Try.func17, Try.ntmps17
  go_wp2
  go_loopw [3, 4, 5] (fun p q i wr => ∃ (k : Nat) (P Q : Int), k ≤ l.length ∧ i = .int .i64 k ∧ p = .int .i64 P ∧ q = .int .i64 Q ∧ Hid (sumP (l.take k) = (P, Q)) ∧ Below w.heap.size w wr) (fun _ _ i _ => l.length - (intOf i).toNat)
  case atStart => exact ⟨0, 1, 0, by omega, rfl, rfl, rfl, sumP_zero l, Below.refl _ _⟩
  case round =>
    obtain ⟨k, P, Q, hkn, rfl, rfl, rfl, HP, hB⟩ := hrel
    obtain ⟨⟨p1, p2⟩, q1, q2⟩ := sumP_in (l.take k)
    rw [HP.out] at p1 p2 q1 q2
    dsimp only at p1 p2 q1 q2
    by_cases hlt : k < l.length
    · obtain ⟨x, hx⟩ : ∃ x, l[k] = x := ⟨_, rfl⟩
      obtain ⟨x0, x1⟩ := HB.out.get k hlt
      obtain ⟨B1, o1, rfl, hl1, a0⟩ := byte_at k hlt HL.out hB (Nat.le_refl _)
      rw [hx] at a0 x0 x1
      have HS := Lib.hid (sumS_succ hlt hx HP.out)
      have HW := Lib.hid (wrap_big k l.length hlt HN.out)
      clear hx
      go_wp2
      go_roundw
      case rel => exact ⟨k + 1, _, _, hlt, by rw [HW.out], rfl, rfl, HS, hB⟩
      case measure => rw [HW.out]; simp [intOf]; omega
    · have hkl : k = l.length := by omega
      subst hkl
      have ht : List.take l.length l = l := List.take_length
      rw [ht] at HP
      have HV := Lib.hid (sumV_of HP.out)
      go_wp2
      go_ret
      exact ⟨by rw [HV.out]; rfl, hB⟩
set_option maxRecDepth 100000 in
set_option maxHeartbeats 2000000 in
theorem SameBytes_eq (l : List Int) (b1 b2 : Option Addr) (c1 c2 : Nat) (w : World) (hn : l.length ≤ 140737488355328) (h1 : LiesV (bytesV l) b1 w) (h2 : LiesV (bytesV l) b2 w) :
    Calls Try.prog 22 #[.slice b1 l.length c1, .slice b2 l.length c2] w fun e w' => e = .returned (.bool true) ∧ Below w.heap.size w w' := by
  have HN := Lib.hid hn
  have H1 := Lib.hid h1
  have H2 := Lib.hid h2
  have e0 : ((l.length : Int) != (l.length : Int)) = false := bne_self_eq_false _
  clear hn h1 h2
  go_enter Try.func22, Try.ntmps22
  go_wp2
  go_loopw [5] (fun i wr => ∃ k : Nat, k ≤ l.length ∧ i = .int .i64 k ∧ Below w.heap.size w wr) (fun i _ => l.length - (intOf i).toNat)
  case atStart => exact ⟨0, by omega, rfl, Below.refl _ _⟩
  case round =>
    obtain ⟨k, hkn, rfl, hB⟩ := hrel
    by_cases hlt : k < l.length
    · obtain ⟨x, hx⟩ : ∃ x, l[k] = x := ⟨_, rfl⟩
      obtain ⟨B1, o1, rfl, hl1, a0⟩ := byte_at k hlt H1.out hB (Nat.le_refl _)
      obtain ⟨B2, o2, rfl, hl2, b0⟩ := byte_at k hlt H2.out hB (Nat.le_refl _)
      rw [hx] at a0 b0
      have e1 : (x == x) = true := beq_self_eq_true _
      have HW := Lib.hid (wrap_big k l.length hlt HN.out)
      clear hx
      go_wp2
      refine Ear.Pl.wp_region_qs 9 (by kernel_rfl) (by kernel_rfl) ?_; simp only [List.take_succ_cons, List.take_zero, List.drop_succ_cons, List.drop_zero]
      (iterate 9 (refine Ear.Pl.wpQ_run (by rfl) ?_; apply Exists.intro; refine ⟨fun K Q hK w' hw' => ?_, ?_⟩; (focus (subst hw'; simp only [Act.put, List.setIfInBounds_toArray, List.set_cons_succ, List.set_cons_zero] at hK; go_wp2; try rfl)); simp only [Act.put, List.setIfInBounds_toArray, List.set_cons_succ, List.set_cons_zero]))
      refine Ear.Pl.wpQ_nil ?_
      rintro w' rfl
      go_wp2
      go_roundw
      case rel => exact ⟨k + 1, hlt, by rw [HW.out], hB.drew⟩
      case measure => rw [HW.out]; simp [intOf]; omega
    · have hkl : k = l.length := by omega
      subst hkl
      go_wp2
      go_ret
      exact ⟨rfl, hB⟩
end Go.Proofs.Ytklfkfnckdeifaa
