/-
  A lent slice of bytes, and how it is looked at.
-/
import Derived.Test.YtklfkfnckdeifaaWireA
import Derived.Laws.IdiomCopy
import Derived.Laws.MakeOwn
namespace Go.Proofs.Ytklfkfnckdeifaa
set_option linter.unusedSimpArgs false
set_option linter.unusedVariables false
open Go.RowKit
attribute [local irreducible] Ear.Pl.wpQ Ear.Pa.wpQ Ear.Fe.wpQ Ear.Fa.wpQ sumP sumV
def setsL : List Value → Nat → List Value → List Value
  | cs, _, [] => cs
  | cs, o, v :: r => setsL (cs.set o v) (o + 1) r
theorem setsL_eq (vs : List Value) : ∀ (pre tail : List Value), vs.length ≤ tail.length → setsL (pre ++ tail) pre.length vs = pre ++ vs ++ tail.drop vs.length := by
  induction vs with
  | nil => intro pre tail _; simp [setsL]
  | cons v r ih =>
    intro pre tail h
    cases tail with
    | nil => simp at h
    | cons t ts =>
      have h1 : (pre ++ t :: ts).set pre.length v = (pre ++ [v]) ++ ts := by
        rw [List.set_append_right _ _ (Nat.le_refl _)]
        simp
      have h2 := ih (pre ++ [v]) ts (by simpa using h)
      have h3 : (pre ++ [v]).length = pre.length + 1 := by simp
      rw [h3] at h2
      show setsL ((pre ++ t :: ts).set pre.length v) (pre.length + 1) r = _
      rw [h1, h2]
      simp
theorem blk_setCells {B T : Nat} : ∀ (vs : List Value) (o : Nat) (W : World) (cs : List Value), Ear.Blk W B T cs → Ear.Blk (W.setCells B o vs) B T (setsL cs o vs)
  | [], _, _, _, h => h
  | v :: r, o, W, cs, h => blk_setCells r (o + 1) _ _ (h.setC (i := o) (v := v))
theorem below_setCells {n B : Nat} {w : World} : ∀ (vs : List Value) (o : Nat) (W : World), Below n w W → n ≤ B → Below n w (W.setCells B o vs)
  | [], _, _, h, _ => h
  | v :: r, o, W, h, hn => below_setCells r (o + 1) _ (h.setCell (p := ⟨B, o, none⟩) hn v) hn
theorem info_u8 : (Try.prog.info? 5).map (fun i => (i.zero, i.size, i.bytes)) = some (some (.int .u8 0), 1, 1) := by kernel_rfl
theorem size_u8 : (Try.prog.info? 5).map (·.size) = some 1 := by kernel_rfl
theorem made_bytes (n : Nat) : madeCells #[Value.int .u8 0] n = (bytesV (List.replicate n 0)).toArray := by
  apply Array.ext
  · simp [size_madeCells, bytesV]
  · intro i h1 h2
    simp only [madeCells, Array.getElem_map, Array.getElem_range, List.getElem_toArray, bytesV, List.map_replicate, List.getElem_replicate]
    have : i % 1 = 0 := Nat.mod_one i
    show (#[Value.int .u8 0] : Array Value)[i % 1]! = _
    rw [this]; rfl
theorem make_bytes (N : Nat) (hN : N ≤ 140737488355328) (u : World) : (Instr.makeSlice 22 (.int .i64 (N : Int)) (.int .i64 (N : Int))).run Try.prog u =
    .ok (.slice (some ⟨u.heap.size, 0, none⟩) N N) (u.alloc (.cells (bytesV (List.replicate N 0)).toArray 5)) := by
  obtain ⟨i0, hi, hz0, hz1, hz2⟩ := info_parts info_u8
  have h := run_make (P := Try.prog) (w := u) 22 5 i0 _ Try.underlying22 hi hz0 .i64 .i64 (N : Int) (N : Int) (by omega) (Int.le_refl _) (by rw [hz2]; omega) (by omega)
  rw [hz1, Int.toNat_natCast, Nat.mul_one] at h
  rw [h, ← made_bytes]
  rfl
theorem copy_bytes (l : List Int) (base : Option Addr) (cap m : Nat) (w : World) (hl : LiesV (bytesV l) base w) :
    ∃ W2, (∀ ty, (Builtin.copy_ #[22, 22] ty #[.slice (some ⟨w.heap.size, 0, none⟩) (l.length + m) (l.length + m), .slice base l.length cap]).run Try.prog (w.alloc (.cells (bytesV (List.replicate (l.length + m) 0)).toArray 5)) = .ok (goInt (l.length : Nat)) W2) ∧
      Ear.Blk W2 w.heap.size 5 (bytesV (l ++ List.replicate m 0)) ∧ Below w.heap.size w W2 := by
  have hnew := Ear.Blk.new w 5 (bytesV (List.replicate (l.length + m) 0))
  have hbel : Below w.heap.size w (w.alloc (.cells (bytesV (List.replicate (l.length + m) 0)).toArray 5)) := (Below.refl _ w).alloc (Nat.le_refl _) _
  cases l with
  | nil =>
    refine ⟨w.alloc (.cells (bytesV (List.replicate (([] : List Int).length + m) 0)).toArray 5), fun ty => run_copy_none _ _ _ ty 5 _ _ _ _ _ _ Try.underlying22 size_u8 (by simp), ?_, hbel⟩
    simpa using hnew
  | cons a t =>
    obtain ⟨B, o, rfl, hB, -⟩ := hl 0 (by simp [bytesV])
    refine ⟨(w.alloc (.cells (bytesV (List.replicate ((a :: t).length + m) 0)).toArray 5)).setCells w.heap.size 0 (bytesV (a :: t)), fun ty => ?_, ?_, ?_⟩
    · have h := run_copy_cells (P := Try.prog) (w.alloc (.cells (bytesV (List.replicate ((a :: t).length + m) 0)).toArray 5)) 22 22 ty 5 w.heap.size 0 ((a :: t).length + m) ((a :: t).length + m) ⟨B, o, none⟩ (a :: t).length cap (bytesV (a :: t)) Try.underlying22 size_u8 (by rw [bytesV_len]; show _ = min _ _; omega) ?_ ?_ ?_ (bytesV_one _)
      · rw [bytesV_len] at h
        exact h
      · intro j v hj
        have hjl : j < (bytesV (a :: t)).length := (List.getElem?_eq_some_iff.1 hj).1
        obtain ⟨B', o', he, hB', hc⟩ := hl j hjl
        simp only [Option.some.injEq, Addr.mk.injEq] at he
        obtain ⟨rfl, rfl, -⟩ := he
        have e : (⟨B, o, none⟩ : Addr).add j = ⟨B, o + j, none⟩ := by unfold Addr.add; by_cases h : j = 0 <;> simp [h]
        rw [e, hbel.cell (p := ⟨B, o + j, none⟩) hB', hc]
        exact hj
      · intro j hj
        rw [hnew.cell, Nat.zero_add]
        rw [bytesV_len] at hj
        rw [bytesV_get _ _ (by simp at hj ⊢; omega)]
        rfl
      · intro j hj
        exact hnew.frozen _
    · have h := blk_setCells (bytesV (a :: t)) 0 _ _ hnew
      have h2 := setsL_eq (bytesV (a :: t)) [] (bytesV (List.replicate ((a :: t).length + m) 0)) (by simp [bytesV])
      simp only [List.nil_append, List.length_nil] at h2
      rw [h2] at h
      have e : bytesV (a :: t) ++ (bytesV (List.replicate ((a :: t).length + m) 0)).drop (bytesV (a :: t)).length = bytesV ((a :: t) ++ List.replicate m 0) := by
        rw [bytesV_append, bytesV_len]
        unfold bytesV
        rw [← List.map_drop, List.drop_replicate]
        congr 3
        omega
      rw [e] at h
      exact h
    · exact below_setCells _ _ _ hbel (Nat.le_refl _)
/-- What stands behind a lent slice, k marks laid. -/
def marks (k : Nat) : List Int := List.replicate k 167 ++ List.replicate (9 - k) 0
theorem marks_set (l : List Int) (k : Nat) (hk : k < 9) : (bytesV (l ++ marks k)).set (l.length + k) (.int .u8 167) = bytesV (l ++ marks (k + 1)) := by
  have h1 : (l ++ marks k).set (l.length + k) 167 = l ++ marks (k + 1) := by
    rw [List.set_append_right _ _ (by omega)]
    congr 1
    unfold marks
    rw [List.set_append_right _ _ (by simp)]
    have : (List.replicate (9 - k) (0 : Int)) = 0 :: List.replicate (9 - (k + 1)) 0 := by
      rw [show 9 - k = (9 - (k + 1)) + 1 by omega, List.replicate_succ]
    rw [this]
    simp [List.replicate_succ']
  rw [← h1]
  unfold bytesV
  rw [List.map_set]
theorem marks_get (l : List Int) (k : Nat) (hk : k < 9) : (bytesV (l ++ marks k))[l.length + k]? = some (.int .u8 0) := by
  have hlen : l.length + k < (l ++ marks k).length := by simp [marks]; omega
  rw [bytesV_get _ _ hlen]
  congr 2
  rw [List.getElem_append_right (by omega)]
  unfold marks
  rw [List.getElem_append_right (by simp)]
  simp
theorem marks_end (l : List Int) (j : Nat) (hj : j < 9) : (bytesV (l ++ marks 9))[l.length + j]? = some (.int .u8 167) := by
  have hlen : l.length + j < (l ++ marks 9).length := by simp [marks]; omega
  rw [bytesV_get _ _ hlen]
  congr 2
  rw [List.getElem_append_right (by omega)]
  unfold marks
  rw [List.getElem_append_left (by simp; omega), List.getElem_replicate]
theorem wrap_9 (n : Nat) (hn : n ≤ 140737488351232) : wrap64 ((n : Int) + 9) = ((n + 9 : Nat) : Int) := by simp only [wrap64]; omega
theorem wrap_k (n k : Nat) (hn : n ≤ 140737488351232) (hk : k < 9) : wrap64 ((n : Int) + (k : Int) + 1) = ((n + (k + 1) : Nat) : Int) := by simp only [wrap64]; omega
attribute [local irreducible] marks
set_option maxRecDepth 100000 in
set_option maxHeartbeats 2000000 in
theorem Lent_calls (l : List Int) (base : Option Addr) (cap : Nat) (w : World) (hn : l.length ≤ 140737488351232) (hl : LiesV (bytesV l) base w) :
    Calls Try.prog 14 #[.slice base l.length cap] w fun e w' => e = .returned (.slice (some ⟨w.heap.size, 0, none⟩) l.length (l.length + 9)) ∧ Ear.Blk w' w.heap.size 5 (bytesV (l ++ marks 9)) ∧ Below w.heap.size w w' := by
  have HN := Lib.hid hn
  have hw9 := wrap_9 l.length hn
  have hmk := make_bytes (l.length + 9) (by omega)
  have e9 : ((l.length + 9 : Nat) : Int) = (l.length : Int) + 9 := by omega
  simp only [e9] at hmk
  obtain ⟨W2, hcp, hblk, hbel⟩ := copy_bytes l base cap 9 w hl
  have hm0 : bytesV (l ++ List.replicate 9 0) = bytesV (l ++ marks 0) := by unfold marks; rfl
  rw [hm0] at hblk
  have HBL := Lib.hid hblk
  clear hn hl hm0 hblk e9
  go_enter Try.func14, Try.ntmps14
  go_wp2
  obtain ⟨g, hg⟩ : ∃ g, w.heap.size = g := ⟨_, rfl⟩
  have hwg : w.heap.size ≤ g := by omega
  rw [hg] at HBL
  rw [hg]
  have HGE := Lib.hid hg
  clear hmk hcp hw9 hg
  go_loopw [4] (fun i wr => ∃ k : Nat, k ≤ 9 ∧ i = .int .i64 ((l.length + k : Nat) : Int) ∧ Hid (Ear.Blk wr g 5 (bytesV (l ++ marks k))) ∧ Below w.heap.size w wr) (fun i _ => l.length + 9 - (intOf i).toNat)
  case atStart => exact ⟨0, by omega, rfl, HBL, hbel⟩
  case round =>
    clear HBL hbel
    obtain ⟨k, hk, rfl, HK, hB⟩ := hrel
    have hx := HK.out
    have hx_l := hx.lt
    have hx_f := hx.frozen
    by_cases hlt : k < 9
    · have a0 : wr.cell? ⟨g, l.length + k, none⟩ = some (.int .u8 0) := (hx.cell _).trans (marks_get l k hlt)
      have HW := Lib.hid (wrap_k l.length k HN.out hlt)
      go_wp2
      go_roundw
      case rel => exact ⟨k + 1, hlt, by rw [HW.out], by have h9 := hx.setC (i := l.length + k) (v := .int .u8 167); rw [marks_set l k hlt] at h9; exact h9, hB.setCell hwg _⟩
      case measure => rw [HW.out]; simp [intOf]; omega
    · have hkl : k = 9 := by omega
      subst hkl
      go_wp2
      go_ret
      exact ⟨by rw [HGE.out]; rfl, by rw [HGE.out]; exact hx, hB⟩
set_option maxRecDepth 100000 in
set_option maxHeartbeats 2000000 in
theorem Stays_calls (l : List Int) (g : Nat) (base : Option Addr) (cap : Nat) (w : World) (hn : l.length ≤ 140737488351232) (hg : Ear.Blk w g 5 (bytesV (l ++ marks 9))) (hl : LiesV (bytesV l) base w) :
    Calls Try.prog 18 #[.slice (some ⟨g, 0, none⟩) l.length (l.length + 9), .slice base l.length cap] w fun e w' => e = .returned (.bool true) ∧ Below w.heap.size w w' := by
  have HN := Lib.hid hn
  have HG := Lib.hid hg
  have HL := Lib.hid hl
  have HG2 : Hid (LiesV (bytesV l) (some ⟨g, 0, none⟩) w) := Lib.hid (by
    intro i hi
    refine ⟨g, 0, rfl, hg.lt, ?_⟩
    rw [hg.cell, Nat.zero_add, bytesV_append, List.getElem?_append_left hi])
  have hw9 := wrap_9 l.length hn
  clear hn hg hl
  go_enter Try.func18, Try.ntmps18
  go_wp2_with (go_at_call 22; (with_reducible refine Calls.mono (SameBytes_eq l _ _ _ _ _ (by have := HN.out; omega) HG2.out HL.out) ?_); rintro e w1 ⟨rfl, hb1⟩)
  have hx0 := HG.out.below hb1 HG.out.lt
  clear hw9
  go_loopw [6] (fun i wr => ∃ k : Nat, k ≤ 9 ∧ i = .int .i64 ((l.length + k : Nat) : Int) ∧ Hid (Ear.Blk wr g 5 (bytesV (l ++ marks 9))) ∧ Below w.heap.size w wr) (fun i _ => l.length + 9 - (intOf i).toNat)
  case atStart => exact ⟨0, by omega, rfl, hx0, hb1⟩
  case round =>
    clear hx0 hb1
    obtain ⟨k, hk, rfl, HK, hB⟩ := hrel
    have hx := HK.out
    have hx_l := hx.lt
    by_cases hlt : k < 9
    · have a0 : wr.cell? ⟨g, l.length + k, none⟩ = some (.int .u8 167) := (hx.cell _).trans (marks_end l k hlt)
      have HW := Lib.hid (wrap_k l.length k HN.out hlt)
      go_wp2
      go_roundw
      case rel => exact ⟨k + 1, hlt, by rw [HW.out], HK, hB⟩
      case measure => rw [HW.out]; simp [intOf]; omega
    · have hkl : k = 9 := by omega
      subst hkl
      go_wp2
      go_ret
      exact ⟨rfl, hB⟩
end Go.Proofs.Ytklfkfnckdeifaa
