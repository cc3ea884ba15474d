/-
  What Cover comes to.
-/
import Derived.Test.YtfnolmlmmimehaaInferB
namespace Go.Proofs.Ytfnolmlmmimehaa
set_option linter.unusedSimpArgs false
set_option linter.unusedVariables false
open Go.RowKit
attribute [local irreducible] Ear.Pl.wpQ Ear.Pa.wpQ Ear.Fe.wpQ Ear.Fa.wpQ Ear.wd Ear.one Ear.clean unionL withV withE hasV within
/-- In how many sets an id is. -/
def cntL (l : List (BitVec 128)) (i : Int) : Nat := (l.filter fun s => hasV s i).length
theorem cntL_succ (l : List (BitVec 128)) (i : Int) (k : Nat) (h : k < l.length) : cntL (l.take (k + 1)) i = if hasV l[k] i = true then cntL (l.take k) i + 1 else cntL (l.take k) i := by
  unfold cntL
  rw [List.take_succ_eq_append_getElem h, List.filter_append]
  cases hb : hasV l[k] i <;> simp [hb]
theorem cntL_zero (l : List (BitVec 128)) (i : Int) : cntL (l.take 0) i = 0 := by rw [List.take_zero]; rfl
theorem cntL_le (l : List (BitVec 128)) (i : Int) : cntL l i ≤ l.length := List.length_filter_le _ _
/-- The ids in more than f of some sets, below k. -/
def coverTo (f : Int) (l : List (BitVec 128)) : Nat → BitVec 128
  | 0 => 0#128
  | k + 1 => if f < (cntL l (k : Int) : Int) then withV (coverTo f l k) (k : Int) else coverTo f l k
theorem coverTo_zero (f : Int) (l : List (BitVec 128)) : coverTo f l 0 = 0#128 := rfl
theorem coverTo_succ (f : Int) (l : List (BitVec 128)) (k : Nat) : coverTo f l (k + 1) = if f < (cntL l (k : Int) : Int) then withV (coverTo f l k) (k : Int) else coverTo f l k := rfl
attribute [local irreducible] cntL coverTo
theorem Within_eq {v : BitVec 128} {n : Int} {b : Bool} (h : within v n = b) (w : World) : Calls Try.prog 39 #[.agg #[.int .u32 (Ear.wd (v) 0), .int .u32 (Ear.wd (v) 1), .int .u32 (Ear.wd (v) 2), .int .u32 (Ear.wd (v) 3)], .int .i64 n] w fun e w' => e = .returned (.bool b) ∧ Below w.heap.size w w' := by
  subst h; unfold within; exact Within_calls v n w
theorem Has_vE {v : BitVec 128} {i : Int} {b : Bool} (h : hasV v i = b) (w : World) : Calls Try.prog 46 #[.agg #[.int .u32 (Ear.wd (v) 0), .int .u32 (Ear.wd (v) 1), .int .u32 (Ear.wd (v) 2), .int .u32 (Ear.wd (v) 3)], .int .i64 i] w fun e w' => e = .returned (.bool b) ∧ Below w.heap.size w w' := by
  subst h; exact Has_val v i w
theorem RHas_vE {v : BitVec 128} {i : Int} {b : Bool} (h : hasV v i = b) (w : World) : Calls Try.prog 67 #[.agg #[.int .u32 (Ear.wd (v) 0), .int .u32 (Ear.wd (v) 1), .int .u32 (Ear.wd (v) 2), .int .u32 (Ear.wd (v) 3)], .int .i64 i] w fun e w' => e = .returned (.bool b) ∧ Below w.heap.size w w' := by
  subst h; exact RHas_val v i w
theorem wrap_c (k : Nat) (hn : k ≤ 100000) : wrap64 ((k : Int) + 1) = ((k + 1 : Nat) : Int) := by simp only [wrap64]; omega
set_option maxRecDepth 100000 in
set_option maxHeartbeats 1000000 in
theorem Cover1_calls {w : World} {bx : Nat} {i : Int} (s : BitVec 128) (n m : Nat) (hn : n ≤ 100000) (h : Ear.Blk w bx 3 [.int .i64 i]) (hm : (if hasV s i = true then n + 1 else n) = m) :
    Calls Try.prog 65 #[.int .i64 (n : Int), .agg #[.int .u32 (Ear.wd (s) 0), .int .u32 (Ear.wd (s) 1), .int .u32 (Ear.wd (s) 2), .int .u32 (Ear.wd (s) 3)], .pointer (some ⟨bx, 0, none⟩)] w fun e w' => e = .returned (.int .i64 (m : Int)) ∧ Below w.heap.size w w' := by
  have HM := Lib.hid hm
  clear hm
  have hc := h.cell
  have hlt := h.lt
  have HW := Lib.hid (wrap_c n hn)
  obtain ⟨b, hb⟩ : ∃ b, hasV s i = b := ⟨_, rfl⟩
  have HB := Lib.hid hb
  clear h hb
  cases b
  all_goals
    go_enter Try.func65, Try.ntmps65
    go_wp2_with (go_at_call 46; (with_reducible refine Calls.mono (Has_vE HB.out _) ?_); rintro e w1 ⟨rfl, hb1⟩; have hB' : Below w.heap.size w w1 := Below.trans (by (repeat' (first | (with_reducible exact Below.refl _ _) | (with_reducible assumption) | (show Below 0 _ _; with_reducible refine Below.mono (by assumption) (Nat.zero_le _)) | (with_reducible refine below_setRow ?_ ?_ _) | (with_reducible refine Below.alloc ?_ ?_ _) | (with_reducible refine Below.drew ?_) | (with_reducible refine Below.setCell ?_ ?_ _) | (with_reducible refine Below.frame ?_ _) | (with_reducible exact Nat.le_refl _) | omega | (simp only [World.size_alloc, World.size_setCell, World.size_drew, setRow_size]; omega) | (simp; omega) | (simp; done)))) (hb1.mono (by (try simp only [World.size_alloc, World.size_setCell, World.size_drew, setRow_size]); omega)); clear hb1; (try clear hB hs); have hB := hB'; clear hB'; have hs := hB.size)
    go_ret
    refine ⟨?_, hB⟩
    rw [← HM.out, HB.out]
    first | rfl | (simp; done)
set_option maxRecDepth 100000 in
set_option maxHeartbeats 4000000 in
theorem foldI_calls (l : List (BitVec 128)) (base : Option Addr) (cap : Nat) (w : World) {bx : Nat} {i : Int} (hn : l.length ≤ 100000) (hl : LiesV (setsV l) base w) (h : Ear.Blk w bx 3 [.int .i64 i]) :
    Calls Try.prog 66 #[.slice base l.length cap, .int .i64 0, .func (.func 65) #[] #[.pointer (some ⟨bx, 0, none⟩)]] w fun e w' => e = .returned (.int .i64 (cntL l i : Int)) ∧ Below w.heap.size w w' := by
  have HL := Lib.hid hl
  have HB0 := Lib.hid h
  have hbl := h.lt
  clear hl h
  go_enter Try.func66, Try.ntmps66
  go_wp2
  go_loopw [1, 11] (fun v j wr => ∃ k : Nat, k ≤ l.length ∧ j = .int .i64 k ∧ v = .int .i64 (cntL (l.take k) i : Int) ∧ Below w.heap.size w wr) (fun _ j _ => l.length - (intOf j).toNat)
  case atStart => exact ⟨0, by omega, rfl, by rw [cntL_zero]; rfl, Below.refl _ _⟩
  case round =>
    obtain ⟨k, hk, rfl, rfl, hB⟩ := hrel
    have hs := hB.size
    by_cases hlt : k < l.length
    · obtain ⟨B1, o1, rfl, hl1, a0, a1, a2, a3⟩ := set_cells k hlt HL.out hB (Nat.le_refl _)
      have HW := Lib.hid (wrap_in k l.length hlt hn)
      have HS := Lib.hid (cntL_succ l i k hlt)
      have hck : cntL (l.take k) i ≤ 100000 := by have := cntL_le (l.take k) i; have := List.length_take_le k l; omega
      obtain ⟨x, hx⟩ : ∃ x, l[k] = x := ⟨_, rfl⟩
      rw [hx] at a0 a1 a2 a3 HS
      obtain ⟨c, hc⟩ : ∃ c, cntL (l.take k) i = c := ⟨_, rfl⟩
      rw [hc] at HS hck ⊢
      have hbx := HB0.out.below hB hbl
      have hbx_l := hbx.lt
      clear hx hc
      go_wp2_with fail
      refine Calls.mono (Cover1_calls x c _ hck (by (repeat' (first | (show Ear.Blk _ _ _ _; with_reducible assumption) | (with_reducible exact Ear.Blk.new _ _ _) | (with_reducible refine Ear.Blk.new' ?_; (simp only [World.size_alloc, World.size_setCell, World.size_drew, setRow_size]; done)) | (with_reducible apply Ear.Blk.alloc) | (with_reducible apply Ear.Blk.drew) | (with_reducible apply Ear.Blk.setC) | (with_reducible apply Ear.Blk.setC' (e := by omega)) | (with_reducible apply Ear.Blk.rowC (e := by first | rfl | omega)) | (with_reducible apply Ear.Blk.otherRow) | (with_reducible apply Ear.Blk.other) | (show _ ≠ _; (try simp only [World.size_alloc, World.size_setCell, World.size_drew, setRow_size]); omega) | (show _ < _; (try simp only [World.size_alloc, World.size_setCell, World.size_drew, setRow_size]); omega)))) rfl) ?_
      rintro e w2 ⟨rfl, hb2⟩
      rw [← HS.out]
      have hB2 : Below w.heap.size w w2 := Below.trans (by (repeat' (first | (with_reducible exact Below.refl _ _) | (with_reducible assumption) | (show Below 0 _ _; with_reducible refine Below.mono (by assumption) (Nat.zero_le _)) | (with_reducible refine below_setRow ?_ ?_ _) | (with_reducible refine Below.alloc ?_ ?_ _) | (with_reducible refine Below.drew ?_) | (with_reducible refine Below.setCell ?_ ?_ _) | (with_reducible refine Below.frame ?_ _) | (with_reducible exact Nat.le_refl _) | omega | (simp only [World.size_alloc, World.size_setCell, World.size_drew, setRow_size]; omega) | (simp; omega) | (simp; done)))) (hb2.mono (by (try simp only [World.size_alloc, World.size_setCell, World.size_drew, setRow_size]); omega))
      go_wp2
      go_roundw
      case rel => exact ⟨k + 1, hlt, by go_num, rfl, hB2⟩
      case measure => simp [intOf]; omega
    · have hkl : k = l.length := by omega
      subst hkl
      rw [List.take_length]
      go_wp2
      go_ret
      exact ⟨rfl, hB⟩
def allIn (n : Int) (l : List (BitVec 128)) : Bool := l.all fun s => within s n
theorem allIn_get {n : Int} {l : List (BitVec 128)} (h : allIn n l = true) (k : Nat) (hk : k < l.length) : within l[k] n = true := List.all_eq_true.1 h _ (List.getElem_mem hk)
theorem allIn_not {n : Int} {l : List (BitVec 128)} (h : allIn n l = false) (hall : ∀ j (hj : j < l.length), within l[j] n = true) : False := by
  unfold allIn at h
  rw [List.all_eq_false] at h
  obtain ⟨x, hx, hv⟩ := h
  obtain ⟨j, hj, rfl⟩ := List.getElem_of_mem hx
  exact hv (hall j hj)
attribute [local irreducible] allIn
set_option maxRecDepth 100000 in
set_option maxHeartbeats 4000000 in
theorem Cover_arg (n f : Int) (N : Nat) (base : Option Addr) (cap : Nat) (w : World) (h : n < 1 ∨ 100 < n ∨ f < 0 ∨ n ≤ f) :
    Calls Try.prog 27 #[.int .i64 n, .int .i64 f, .slice base N cap] w fun e w' => e = .returned (.tuple #[.agg #[.int .u32 0, .int .u32 0, .int .u32 0, .int .u32 0], .int .i64 1]) ∧ Below w.heap.size w w' := by
  obtain ⟨b, hb⟩ : ∃ b, (decide (1 ≤ n) && decide (n ≤ 100)) = b := ⟨_, rfl⟩
  have HB := Lib.hid hb
  have h' : b = false ∨ b = true ∧ f < 0 ∨ b = true ∧ 0 ≤ f ∧ n ≤ f := by
    cases b with
    | false => exact .inl rfl
    | true =>
      have hb2 : 1 ≤ n ∧ n ≤ 100 := by simpa using hb
      by_cases h0 : f < 0
      · exact .inr (.inl ⟨rfl, h0⟩)
      · exact .inr (.inr ⟨rfl, by omega, by omega⟩)
  clear h hb
  rcases h' with rfl | ⟨rfl, h1⟩ | ⟨rfl, h1, h2⟩
  all_goals
    go_enter Try.func27, Try.ntmps27
    go_wp2_with (go_at_call 49; (with_reducible refine Calls.mono (isNodes_eq HB.out _) ?_); rintro e w' ⟨rfl, rfl⟩)
    refine Ear.bp_world (Ear.Sh w.heap.size w [(w.heap.size, _, _)]) (.cons (by (repeat' (first | (show Ear.Blk _ _ _ _; with_reducible assumption) | (with_reducible exact Ear.Blk.new _ _ _) | (with_reducible refine Ear.Blk.new' ?_; (simp only [World.size_alloc, World.size_setCell, World.size_drew, setRow_size]; done)) | (with_reducible apply Ear.Blk.alloc) | (with_reducible apply Ear.Blk.drew) | (with_reducible apply Ear.Blk.setC) | (with_reducible apply Ear.Blk.setC' (e := by omega)) | (with_reducible apply Ear.Blk.rowC (e := by first | rfl | omega)) | (with_reducible apply Ear.Blk.otherRow) | (with_reducible apply Ear.Blk.other) | (show _ ≠ _; (try simp only [World.size_alloc, World.size_setCell, World.size_drew, setRow_size]); omega) | (show _ < _; (try simp only [World.size_alloc, World.size_setCell, World.size_drew, setRow_size]); omega)))) (.nil (by (repeat' (first | (with_reducible exact Below.refl _ _) | (with_reducible assumption) | (show Below 0 _ _; with_reducible refine Below.mono (by assumption) (Nat.zero_le _)) | (with_reducible refine below_setRow ?_ ?_ _) | (with_reducible refine Below.alloc ?_ ?_ _) | (with_reducible refine Below.drew ?_) | (with_reducible refine Below.setCell ?_ ?_ _) | (with_reducible refine Below.frame ?_ _) | (with_reducible exact Nat.le_refl _) | omega | (simp only [World.size_alloc, World.size_setCell, World.size_drew, setRow_size]; omega) | (simp; omega) | (simp; done)))))) ?_; (try clear hr_l); (try clear hr_c); (try clear hr_f); (try clear hr); (try clear hB hs); rintro w2 ⟨hr, hB⟩; replace hB : Below w.heap.size w w2 := hB; have hs := hB.size; (try simp only [List.set_cons_zero, List.set_cons_succ] at hr); have hr_l := hr.lt; have hr_c := hr.cell; have hr_f := hr.frozen
    refine bodyPost_ret (v := .tuple #[.agg #[.int .u32 0, .int .u32 0, .int .u32 0, .int .u32 0], .int .i64 1]) (by simp [results, Try.results27, go_sem, *]) rfl ⟨rfl, hB⟩
set_option maxRecDepth 100000 in
set_option maxHeartbeats 4000000 in
theorem Cover_in (n f : Int) (l : List (BitVec 128)) (base : Option Addr) (cap : Nat) (w : World) (h1 : 1 ≤ n) (h2 : n ≤ 100) (h3 : 0 ≤ f) (h4 : f < n) (hn : l.length ≤ 100000) (hl : LiesV (setsV l) base w) {m : BitVec 128} {c : Int} (hm : (if allIn n l = true then (coverTo f l n.toNat, 0) else (0#128, 74)) = (m, c)) :
    Calls Try.prog 27 #[.int .i64 n, .int .i64 f, .slice base l.length cap] w fun e w' => e = .returned (.tuple #[.agg #[.int .u32 (Ear.wd (m) 0), .int .u32 (Ear.wd (m) 1), .int .u32 (Ear.wd (m) 2), .int .u32 (Ear.wd (m) 3)], .int .i64 c]) ∧ Below w.heap.size w w' := by
  have hb : (decide (1 ≤ n) && decide (n ≤ 100)) = true := by simp [h1, h2]
  have HB := Lib.hid hb
  have HL := Lib.hid hl
  have HM := Lib.hid hm
  obtain ⟨N, rfl⟩ := Int.eq_ofNat_of_zero_le (show 0 ≤ n by omega)
  clear hb hl hm
  go_enter Try.func27, Try.ntmps27
  go_wp2_with (go_at_call 49; (with_reducible refine Calls.mono (isNodes_eq HB.out _) ?_); rintro e w' ⟨rfl, rfl⟩)
  refine Ear.wp_world (Ear.Sh w.heap.size w [(w.heap.size, _, _), (w.heap.size + 1, _, _)]) (.cons (by (repeat' (first | (show Ear.Blk _ _ _ _; with_reducible assumption) | (with_reducible exact Ear.Blk.new _ _ _) | (with_reducible refine Ear.Blk.new' ?_; (simp only [World.size_alloc, World.size_setCell, World.size_drew, setRow_size]; done)) | (with_reducible apply Ear.Blk.alloc) | (with_reducible apply Ear.Blk.drew) | (with_reducible apply Ear.Blk.setC) | (with_reducible apply Ear.Blk.setC' (e := by omega)) | (with_reducible apply Ear.Blk.rowC (e := by first | rfl | omega)) | (with_reducible apply Ear.Blk.otherRow) | (with_reducible apply Ear.Blk.other) | (show _ ≠ _; (try simp only [World.size_alloc, World.size_setCell, World.size_drew, setRow_size]); omega) | (show _ < _; (try simp only [World.size_alloc, World.size_setCell, World.size_drew, setRow_size]); omega)))) (.cons (by (repeat' (first | (show Ear.Blk _ _ _ _; with_reducible assumption) | (with_reducible exact Ear.Blk.new _ _ _) | (with_reducible refine Ear.Blk.new' ?_; (simp only [World.size_alloc, World.size_setCell, World.size_drew, setRow_size]; done)) | (with_reducible apply Ear.Blk.alloc) | (with_reducible apply Ear.Blk.drew) | (with_reducible apply Ear.Blk.setC) | (with_reducible apply Ear.Blk.setC' (e := by omega)) | (with_reducible apply Ear.Blk.rowC (e := by first | rfl | omega)) | (with_reducible apply Ear.Blk.otherRow) | (with_reducible apply Ear.Blk.other) | (show _ ≠ _; (try simp only [World.size_alloc, World.size_setCell, World.size_drew, setRow_size]); omega) | (show _ < _; (try simp only [World.size_alloc, World.size_setCell, World.size_drew, setRow_size]); omega)))) (.nil (by (repeat' (first | (with_reducible exact Below.refl _ _) | (with_reducible assumption) | (show Below 0 _ _; with_reducible refine Below.mono (by assumption) (Nat.zero_le _)) | (with_reducible refine below_setRow ?_ ?_ _) | (with_reducible refine Below.alloc ?_ ?_ _) | (with_reducible refine Below.drew ?_) | (with_reducible refine Below.setCell ?_ ?_ _) | (with_reducible refine Below.frame ?_ _) | (with_reducible exact Nat.le_refl _) | omega | (simp only [World.size_alloc, World.size_setCell, World.size_drew, setRow_size]; omega) | (simp; omega) | (simp; done))))))) ?_; (try clear hr_l); (try clear hr_c); (try clear hr_f); (try clear hr); (try clear ho_l); (try clear ho_c); (try clear ho_f); (try clear ho); (try clear hB hs); rintro w1 ⟨hr, ho, hB⟩; replace hB : Below w.heap.size w w1 := hB; have hs := hB.size; (try simp only [List.set_cons_zero, List.set_cons_succ] at hr); (try simp only [List.set_cons_zero, List.set_cons_succ] at ho); have hr_l := hr.lt; have hr_c := hr.cell; have hr_f := hr.frozen; have ho_l := ho.lt; have ho_c := ho.cell; have ho_f := ho.frozen
  have hr0 := hr
  have ho0 := ho
  have hs1 : w.heap.size + 2 ≤ w1.heap.size := ho_l
  have hB1 := hB
  clear hr_l hr_c hr_f ho_l ho_c ho_f
  go_loopw [28] (fun i wr => ∃ k : Nat, k ≤ l.length ∧ i = .int .i64 k ∧ Hid (∀ j (hj : j < l.length), j < k → within l[j] (N : Int) = true) ∧ Below w1.heap.size w1 wr) (fun i _ => l.length - (intOf i).toNat)
  case atStart => exact ⟨0, by omega, rfl, fun j hj h0 => by omega, Below.refl _ _⟩
  case round =>
    obtain ⟨k, hk, rfl, hv, hBr⟩ := hrel
    have hsr := hBr.size
    have hBw := hB.trans (hBr.mono (by omega))
    have hr := hr0.below hBr (by omega)
    have hr_l := hr.lt
    have hr_c := hr.cell
    have hr_f := hr.frozen
    by_cases hlt : k < l.length
    · obtain ⟨B1, o1, rfl, hl1, a0, a1, a2, a3⟩ := set_cells k hlt (HL.out.below hB1) hBr (Nat.le_refl _)
      have HW := Lib.hid (wrap_in k l.length hlt hn)
      obtain ⟨x, hx⟩ : ∃ x, l[k] = x := ⟨_, rfl⟩
      have HX := Lib.hid hx
      rw [hx] at a0 a1 a2 a3
      obtain ⟨vb, hvb⟩ : ∃ vb, within x (N : Int) = vb := ⟨_, rfl⟩
      have HV := Lib.hid hvb
      clear hx hvb
      cases vb with
      | false =>
        have hm := HM.out
        rw [if_neg (by intro hall; have := allIn_get hall k hlt; rw [HX.out, HV.out] at this; cases this)] at hm
        obtain ⟨rfl, rfl⟩ := Prod.mk.inj hm
        clear hm
        go_wp2_with (go_at_call 39; (with_reducible refine Calls.mono (Within_eq HV.out _) ?_); rintro e w2 ⟨rfl, hb2⟩; have hB2 : Below w1.heap.size w1 w2 := hBr.trans (Below.trans (by (repeat' (first | (with_reducible exact Below.refl _ _) | (with_reducible assumption) | (show Below 0 _ _; with_reducible refine Below.mono (by assumption) (Nat.zero_le _)) | (with_reducible refine below_setRow ?_ ?_ _) | (with_reducible refine Below.alloc ?_ ?_ _) | (with_reducible refine Below.drew ?_) | (with_reducible refine Below.setCell ?_ ?_ _) | (with_reducible refine Below.frame ?_ _) | (with_reducible exact Nat.le_refl _) | omega | (simp only [World.size_alloc, World.size_setCell, World.size_drew, setRow_size]; omega) | (simp; omega) | (simp; done)))) (hb2.mono (by (try simp only [World.size_alloc, World.size_setCell, World.size_drew, setRow_size]); omega))); have hB := hB1.trans (hB2.mono (by omega)); have hr := hr0.below hB2 (by omega); have hr_l := hr.lt; have hr_c := hr.cell; have hr_f := hr.frozen)
        refine Ear.bp_world (Ear.Sh w.heap.size w [(w.heap.size, _, _)]) (.cons (by (repeat' (first | (show Ear.Blk _ _ _ _; with_reducible assumption) | (with_reducible exact Ear.Blk.new _ _ _) | (with_reducible refine Ear.Blk.new' ?_; (simp only [World.size_alloc, World.size_setCell, World.size_drew, setRow_size]; done)) | (with_reducible apply Ear.Blk.alloc) | (with_reducible apply Ear.Blk.drew) | (with_reducible apply Ear.Blk.setC) | (with_reducible apply Ear.Blk.setC' (e := by omega)) | (with_reducible apply Ear.Blk.rowC (e := by first | rfl | omega)) | (with_reducible apply Ear.Blk.otherRow) | (with_reducible apply Ear.Blk.other) | (show _ ≠ _; (try simp only [World.size_alloc, World.size_setCell, World.size_drew, setRow_size]); omega) | (show _ < _; (try simp only [World.size_alloc, World.size_setCell, World.size_drew, setRow_size]); omega)))) (.nil (by (repeat' (first | (with_reducible exact Below.refl _ _) | (with_reducible assumption) | (show Below 0 _ _; with_reducible refine Below.mono (by assumption) (Nat.zero_le _)) | (with_reducible refine below_setRow ?_ ?_ _) | (with_reducible refine Below.alloc ?_ ?_ _) | (with_reducible refine Below.drew ?_) | (with_reducible refine Below.setCell ?_ ?_ _) | (with_reducible refine Below.frame ?_ _) | (with_reducible exact Nat.le_refl _) | omega | (simp only [World.size_alloc, World.size_setCell, World.size_drew, setRow_size]; omega) | (simp; omega) | (simp; done)))))) ?_; (try clear hr_l); (try clear hr_c); (try clear hr_f); (try clear hr); (try clear hB hs); rintro w3 ⟨hr, hB⟩; replace hB : Below w.heap.size w w3 := hB; have hs := hB.size; (try simp only [List.set_cons_zero, List.set_cons_succ] at hr); have hr_l := hr.lt; have hr_c := hr.cell; have hr_f := hr.frozen
        refine bodyPost_ret (v := .tuple #[.agg #[.int .u32 0, .int .u32 0, .int .u32 0, .int .u32 0], .int .i64 74]) (by simp [results, Try.results27, go_sem, *]) rfl ⟨by simp only [Ear.wd_zero], hB⟩
      | true =>
        clear hr_c hr_f
        go_wp2_with (go_at_call 39; (with_reducible refine Calls.mono (Within_eq HV.out _) ?_); rintro e w2 ⟨rfl, hb2⟩; have hB2 : Below w1.heap.size w1 w2 := hBr.trans (Below.trans (by (repeat' (first | (with_reducible exact Below.refl _ _) | (with_reducible assumption) | (show Below 0 _ _; with_reducible refine Below.mono (by assumption) (Nat.zero_le _)) | (with_reducible refine below_setRow ?_ ?_ _) | (with_reducible refine Below.alloc ?_ ?_ _) | (with_reducible refine Below.drew ?_) | (with_reducible refine Below.setCell ?_ ?_ _) | (with_reducible refine Below.frame ?_ _) | (with_reducible exact Nat.le_refl _) | omega | (simp only [World.size_alloc, World.size_setCell, World.size_drew, setRow_size]; omega) | (simp; omega) | (simp; done)))) (hb2.mono (by (try simp only [World.size_alloc, World.size_setCell, World.size_drew, setRow_size]); omega))))
        go_roundw
        case rel =>
          refine ⟨k + 1, hlt, by go_num, (fun j hj hjk => ?_), hB2⟩
          by_cases hjk' : j = k
          · subst hjk'; rw [HX.out]; exact HV.out
          · exact hv.out j hj (by omega)
        case measure => simp [intOf]; omega
    · have hm := HM.out
      have hall : allIn (N : Int) l = true := by
        cases hq : allIn (N : Int) l with
        | true => rfl
        | false => exact (allIn_not hq (fun j hj => hv.out j hj (by omega))).elim
      rw [if_pos hall, Int.toNat_natCast] at hm
      obtain ⟨rfl, rfl⟩ := Prod.mk.inj hm
      clear hm hv hr hr_l hr_c hr_f
      have ho := ho0.below hBr (by omega)
      have hr := hr0.below hBr (by omega)
      have HLr := Lib.hid (HL.out.below hBw)
      obtain ⟨wb, hwb⟩ : ∃ wb : World, wb = wr := ⟨_, rfl⟩
      subst hwb
      have hz0 : ([.int .u32 (Ear.wd (coverTo f l 0) 0), .int .u32 (Ear.wd (coverTo f l 0) 1), .int .u32 (Ear.wd (coverTo f l 0) 2), .int .u32 (Ear.wd (coverTo f l 0) 3)] : List Value) = [.int .u32 0, .int .u32 0, .int .u32 0, .int .u32 0] := by rw [coverTo_zero]; simp only [Ear.wd_zero]
      have HZ0 := Lib.hid hz0
      clear hz0
      go_wp2
      go_loopw [39] (fun i wq => ∃ k : Nat, k ≤ N ∧ i = .int .i64 k ∧ Ear.Sh w.heap.size w [(w.heap.size, 26, [.int .u32 0, .int .u32 0, .int .u32 0, .int .u32 0]), (w.heap.size + 1, 26, [.int .u32 (Ear.wd (coverTo f l k) 0), .int .u32 (Ear.wd (coverTo f l k) 1), .int .u32 (Ear.wd (coverTo f l k) 2), .int .u32 (Ear.wd (coverTo f l k) 3)])] wq) (fun i _ => N - (intOf i).toNat)
      case atStart => exact ⟨0, by omega, rfl, .cons hr (.cons (by rw [HZ0.out]; exact ho) (.nil hBw))⟩
      case round =>
        clear ho hr
        obtain ⟨q, hq, rfl, hr, ho, hB⟩ := hrel
        replace hB : Below w.heap.size w _ := hB; have hs := hB.size; have hr_l := hr.lt; have hr_c := hr.cell; have hr_f := hr.frozen; have ho_l := ho.lt; have ho_c := ho.cell; have ho_f := ho.frozen
        by_cases hqt : q < N
        · have HW := Lib.hid (wrap_in q N hqt (by omega))
          have HS := Lib.hid (coverTo_succ f l q)
          obtain ⟨c, hc⟩ : ∃ c, cntL l (q : Int) = c := ⟨_, rfl⟩
          have HC := Lib.hid hc
          obtain ⟨u, hu⟩ : ∃ u, coverTo f l q = u := ⟨_, rfl⟩
          rw [hc, hu] at HS
          rw [hu] at ho ho_c
          clear hc hu
          go_wp2_with fail
          refine Calls.mono (foldI_calls l base cap _ (bx := wr.heap.size) (i := (q : Int)) hn (HL.out.below (by (repeat' (first | (with_reducible exact Below.refl _ _) | (with_reducible assumption) | (show Below 0 _ _; with_reducible refine Below.mono (by assumption) (Nat.zero_le _)) | (with_reducible refine below_setRow ?_ ?_ _) | (with_reducible refine Below.alloc ?_ ?_ _) | (with_reducible refine Below.drew ?_) | (with_reducible refine Below.setCell ?_ ?_ _) | (with_reducible refine Below.frame ?_ _) | (with_reducible exact Nat.le_refl _) | omega | (simp only [World.size_alloc, World.size_setCell, World.size_drew, setRow_size]; omega) | (simp; omega) | (simp; done))))) (by (repeat' (first | (show Ear.Blk _ _ _ _; with_reducible assumption) | (with_reducible exact Ear.Blk.new _ _ _) | (with_reducible refine Ear.Blk.new' ?_; (simp only [World.size_alloc, World.size_setCell, World.size_drew, setRow_size]; done)) | (with_reducible apply Ear.Blk.alloc) | (with_reducible apply Ear.Blk.drew) | (with_reducible apply Ear.Blk.setC) | (with_reducible apply Ear.Blk.setC' (e := by omega)) | (with_reducible apply Ear.Blk.rowC (e := by first | rfl | omega)) | (with_reducible apply Ear.Blk.otherRow) | (with_reducible apply Ear.Blk.other) | (show _ ≠ _; (try simp only [World.size_alloc, World.size_setCell, World.size_drew, setRow_size]); omega) | (show _ < _; (try simp only [World.size_alloc, World.size_setCell, World.size_drew, setRow_size]); omega))))) ?_
          rintro e w4 ⟨rfl, hb4⟩
          rw [HC.out]
          have hB' : Below w.heap.size w w4 := Below.trans (by (repeat' (first | (with_reducible exact Below.refl _ _) | (with_reducible assumption) | (show Below 0 _ _; with_reducible refine Below.mono (by assumption) (Nat.zero_le _)) | (with_reducible refine below_setRow ?_ ?_ _) | (with_reducible refine Below.alloc ?_ ?_ _) | (with_reducible refine Below.drew ?_) | (with_reducible refine Below.setCell ?_ ?_ _) | (with_reducible refine Below.frame ?_ _) | (with_reducible exact Nat.le_refl _) | omega | (simp only [World.size_alloc, World.size_setCell, World.size_drew, setRow_size]; omega) | (simp; omega) | (simp; done)))) (hb4.mono (by (try simp only [World.size_alloc, World.size_setCell, World.size_drew, setRow_size]); omega)); have hr' := (show Ear.Blk w4 (w.heap.size) _ _ from by (repeat' (first | (show Ear.Blk _ _ _ _; with_reducible assumption) | (with_reducible exact Ear.Blk.new _ _ _) | (with_reducible refine Ear.Blk.new' ?_; (simp only [World.size_alloc, World.size_setCell, World.size_drew, setRow_size]; done)) | (with_reducible apply Ear.Blk.alloc) | (with_reducible apply Ear.Blk.drew) | (with_reducible apply Ear.Blk.setC) | (with_reducible apply Ear.Blk.setC' (e := by omega)) | (with_reducible apply Ear.Blk.rowC (e := by first | rfl | omega)) | (with_reducible apply Ear.Blk.otherRow) | (with_reducible apply Ear.Blk.other) | (with_reducible apply Ear.Blk.below (hb := hb4)) | (show _ ≠ _; (try simp only [World.size_alloc, World.size_setCell, World.size_drew, setRow_size]); omega) | (show _ < _; (try simp only [World.size_alloc, World.size_setCell, World.size_drew, setRow_size]); omega)))); have ho' := (show Ear.Blk w4 (w.heap.size + 1) _ _ from by (repeat' (first | (show Ear.Blk _ _ _ _; with_reducible assumption) | (with_reducible exact Ear.Blk.new _ _ _) | (with_reducible refine Ear.Blk.new' ?_; (simp only [World.size_alloc, World.size_setCell, World.size_drew, setRow_size]; done)) | (with_reducible apply Ear.Blk.alloc) | (with_reducible apply Ear.Blk.drew) | (with_reducible apply Ear.Blk.setC) | (with_reducible apply Ear.Blk.setC' (e := by omega)) | (with_reducible apply Ear.Blk.rowC (e := by first | rfl | omega)) | (with_reducible apply Ear.Blk.otherRow) | (with_reducible apply Ear.Blk.other) | (with_reducible apply Ear.Blk.below (hb := hb4)) | (show _ ≠ _; (try simp only [World.size_alloc, World.size_setCell, World.size_drew, setRow_size]); omega) | (show _ < _; (try simp only [World.size_alloc, World.size_setCell, World.size_drew, setRow_size]); omega)))); have hx' := (show Ear.Blk w4 (wr.heap.size) _ _ from by (repeat' (first | (show Ear.Blk _ _ _ _; with_reducible assumption) | (with_reducible exact Ear.Blk.new _ _ _) | (with_reducible refine Ear.Blk.new' ?_; (simp only [World.size_alloc, World.size_setCell, World.size_drew, setRow_size]; done)) | (with_reducible apply Ear.Blk.alloc) | (with_reducible apply Ear.Blk.drew) | (with_reducible apply Ear.Blk.setC) | (with_reducible apply Ear.Blk.setC' (e := by omega)) | (with_reducible apply Ear.Blk.rowC (e := by first | rfl | omega)) | (with_reducible apply Ear.Blk.otherRow) | (with_reducible apply Ear.Blk.other) | (with_reducible apply Ear.Blk.below (hb := hb4)) | (show _ ≠ _; (try simp only [World.size_alloc, World.size_setCell, World.size_drew, setRow_size]); omega) | (show _ < _; (try simp only [World.size_alloc, World.size_setCell, World.size_drew, setRow_size]); omega)))); clear hb4; (try clear hr_l); (try clear hr_c); (try clear hr_f); (try clear hr); have hr := hr'; clear hr'; (try simp only [List.set_cons_zero, List.set_cons_succ] at hr); have hr_l := hr.lt; have hr_c := hr.cell; have hr_f := hr.frozen; (try clear ho_l); (try clear ho_c); (try clear ho_f); (try clear ho); have ho := ho'; clear ho'; (try simp only [List.set_cons_zero, List.set_cons_succ] at ho); have ho_l := ho.lt; have ho_c := ho.cell; have ho_f := ho.frozen; (try clear hx_l); (try clear hx_c); (try clear hx_f); (try clear hx); have hx := hx'; clear hx'; (try simp only [List.set_cons_zero, List.set_cons_succ] at hx); have hx_l := hx.lt; have hx_c := hx.cell; have hx_f := hx.frozen; (try clear hB hs); have hB := hB'; clear hB'; have hs := hB.size
          by_cases hf : f < (c : Int)
          · have HN := Lib.hid (show coverTo f l (q + 1) = withV u (q : Int) from by rw [HS.out, if_pos hf])
            go_wp2_with (go_at_call 22; (with_reducible refine Calls.mono (With_val u (q : Int) _) ?_); rintro e w5 ⟨rfl, hb5⟩; have hB' : Below w.heap.size w w5 := Below.trans (by (repeat' (first | (with_reducible exact Below.refl _ _) | (with_reducible assumption) | (show Below 0 _ _; with_reducible refine Below.mono (by assumption) (Nat.zero_le _)) | (with_reducible refine below_setRow ?_ ?_ _) | (with_reducible refine Below.alloc ?_ ?_ _) | (with_reducible refine Below.drew ?_) | (with_reducible refine Below.setCell ?_ ?_ _) | (with_reducible refine Below.frame ?_ _) | (with_reducible exact Nat.le_refl _) | omega | (simp only [World.size_alloc, World.size_setCell, World.size_drew, setRow_size]; omega) | (simp; omega) | (simp; done)))) (hb5.mono (by (try simp only [World.size_alloc, World.size_setCell, World.size_drew, setRow_size]); omega)); have hr' := (show Ear.Blk w5 (w.heap.size) _ _ from by (repeat' (first | (show Ear.Blk _ _ _ _; with_reducible assumption) | (with_reducible exact Ear.Blk.new _ _ _) | (with_reducible refine Ear.Blk.new' ?_; (simp only [World.size_alloc, World.size_setCell, World.size_drew, setRow_size]; done)) | (with_reducible apply Ear.Blk.alloc) | (with_reducible apply Ear.Blk.drew) | (with_reducible apply Ear.Blk.setC) | (with_reducible apply Ear.Blk.setC' (e := by omega)) | (with_reducible apply Ear.Blk.rowC (e := by first | rfl | omega)) | (with_reducible apply Ear.Blk.otherRow) | (with_reducible apply Ear.Blk.other) | (with_reducible apply Ear.Blk.below (hb := hb5)) | (show _ ≠ _; (try simp only [World.size_alloc, World.size_setCell, World.size_drew, setRow_size]); omega) | (show _ < _; (try simp only [World.size_alloc, World.size_setCell, World.size_drew, setRow_size]); omega)))); have ho' := (show Ear.Blk w5 (w.heap.size + 1) _ _ from by (repeat' (first | (show Ear.Blk _ _ _ _; with_reducible assumption) | (with_reducible exact Ear.Blk.new _ _ _) | (with_reducible refine Ear.Blk.new' ?_; (simp only [World.size_alloc, World.size_setCell, World.size_drew, setRow_size]; done)) | (with_reducible apply Ear.Blk.alloc) | (with_reducible apply Ear.Blk.drew) | (with_reducible apply Ear.Blk.setC) | (with_reducible apply Ear.Blk.setC' (e := by omega)) | (with_reducible apply Ear.Blk.rowC (e := by first | rfl | omega)) | (with_reducible apply Ear.Blk.otherRow) | (with_reducible apply Ear.Blk.other) | (with_reducible apply Ear.Blk.below (hb := hb5)) | (show _ ≠ _; (try simp only [World.size_alloc, World.size_setCell, World.size_drew, setRow_size]); omega) | (show _ < _; (try simp only [World.size_alloc, World.size_setCell, World.size_drew, setRow_size]); omega)))); clear hb5; (try clear hr_l); (try clear hr_c); (try clear hr_f); (try clear hr); have hr := hr'; clear hr'; (try simp only [List.set_cons_zero, List.set_cons_succ] at hr); have hr_l := hr.lt; have hr_c := hr.cell; have hr_f := hr.frozen; (try clear ho_l); (try clear ho_c); (try clear ho_f); (try clear ho); have ho := ho'; clear ho'; (try simp only [List.set_cons_zero, List.set_cons_succ] at ho); have ho_l := ho.lt; have ho_c := ho.cell; have ho_f := ho.frozen; (try clear hB hs); have hB := hB'; clear hB'; have hs := hB.size)
            go_roundw
            case rel => exact ⟨q + 1, hqt, by go_num, .cons (by (repeat' (first | (show Ear.Blk _ _ _ _; with_reducible assumption) | (with_reducible exact Ear.Blk.new _ _ _) | (with_reducible refine Ear.Blk.new' ?_; (simp only [World.size_alloc, World.size_setCell, World.size_drew, setRow_size]; done)) | (with_reducible apply Ear.Blk.alloc) | (with_reducible apply Ear.Blk.drew) | (with_reducible apply Ear.Blk.setC) | (with_reducible apply Ear.Blk.setC' (e := by omega)) | (with_reducible apply Ear.Blk.rowC (e := by first | rfl | omega)) | (with_reducible apply Ear.Blk.otherRow) | (with_reducible apply Ear.Blk.other) | (show _ ≠ _; (try simp only [World.size_alloc, World.size_setCell, World.size_drew, setRow_size]); omega) | (show _ < _; (try simp only [World.size_alloc, World.size_setCell, World.size_drew, setRow_size]); omega)))) (.cons (by rw [HN.out]; exact Ear.Blk.renew (by (repeat' (first | (show Ear.Blk _ _ _ _; with_reducible assumption) | (with_reducible exact Ear.Blk.new _ _ _) | (with_reducible refine Ear.Blk.new' ?_; (simp only [World.size_alloc, World.size_setCell, World.size_drew, setRow_size]; done)) | (with_reducible apply Ear.Blk.alloc) | (with_reducible apply Ear.Blk.drew) | (with_reducible apply Ear.Blk.setC) | (with_reducible apply Ear.Blk.setC' (e := by omega)) | (with_reducible apply Ear.Blk.rowC (e := by first | rfl | omega)) | (with_reducible apply Ear.Blk.otherRow) | (with_reducible apply Ear.Blk.other) | (show _ ≠ _; (try simp only [World.size_alloc, World.size_setCell, World.size_drew, setRow_size]); omega) | (show _ < _; (try simp only [World.size_alloc, World.size_setCell, World.size_drew, setRow_size]); omega)))) (by rfl)) (.nil (by (repeat' (first | (with_reducible exact Below.refl _ _) | (with_reducible assumption) | (show Below 0 _ _; with_reducible refine Below.mono (by assumption) (Nat.zero_le _)) | (with_reducible refine below_setRow ?_ ?_ _) | (with_reducible refine Below.alloc ?_ ?_ _) | (with_reducible refine Below.drew ?_) | (with_reducible refine Below.setCell ?_ ?_ _) | (with_reducible refine Below.frame ?_ _) | (with_reducible exact Nat.le_refl _) | omega | (simp only [World.size_alloc, World.size_setCell, World.size_drew, setRow_size]; omega) | (simp; omega) | (simp; done))))))⟩
            case measure => simp [intOf]; omega
          · have HN := Lib.hid (show coverTo f l (q + 1) = u from by rw [HS.out, if_neg hf])
            go_wp2
            go_roundw
            case rel => exact ⟨q + 1, hqt, by go_num, .cons (by (repeat' (first | (show Ear.Blk _ _ _ _; with_reducible assumption) | (with_reducible exact Ear.Blk.new _ _ _) | (with_reducible refine Ear.Blk.new' ?_; (simp only [World.size_alloc, World.size_setCell, World.size_drew, setRow_size]; done)) | (with_reducible apply Ear.Blk.alloc) | (with_reducible apply Ear.Blk.drew) | (with_reducible apply Ear.Blk.setC) | (with_reducible apply Ear.Blk.setC' (e := by omega)) | (with_reducible apply Ear.Blk.rowC (e := by first | rfl | omega)) | (with_reducible apply Ear.Blk.otherRow) | (with_reducible apply Ear.Blk.other) | (show _ ≠ _; (try simp only [World.size_alloc, World.size_setCell, World.size_drew, setRow_size]); omega) | (show _ < _; (try simp only [World.size_alloc, World.size_setCell, World.size_drew, setRow_size]); omega)))) (.cons (by rw [HN.out]; exact Ear.Blk.renew (by (repeat' (first | (show Ear.Blk _ _ _ _; with_reducible assumption) | (with_reducible exact Ear.Blk.new _ _ _) | (with_reducible refine Ear.Blk.new' ?_; (simp only [World.size_alloc, World.size_setCell, World.size_drew, setRow_size]; done)) | (with_reducible apply Ear.Blk.alloc) | (with_reducible apply Ear.Blk.drew) | (with_reducible apply Ear.Blk.setC) | (with_reducible apply Ear.Blk.setC' (e := by omega)) | (with_reducible apply Ear.Blk.rowC (e := by first | rfl | omega)) | (with_reducible apply Ear.Blk.otherRow) | (with_reducible apply Ear.Blk.other) | (show _ ≠ _; (try simp only [World.size_alloc, World.size_setCell, World.size_drew, setRow_size]); omega) | (show _ < _; (try simp only [World.size_alloc, World.size_setCell, World.size_drew, setRow_size]); omega)))) (by rfl)) (.nil (by (repeat' (first | (with_reducible exact Below.refl _ _) | (with_reducible assumption) | (show Below 0 _ _; with_reducible refine Below.mono (by assumption) (Nat.zero_le _)) | (with_reducible refine below_setRow ?_ ?_ _) | (with_reducible refine Below.alloc ?_ ?_ _) | (with_reducible refine Below.drew ?_) | (with_reducible refine Below.setCell ?_ ?_ _) | (with_reducible refine Below.frame ?_ _) | (with_reducible exact Nat.le_refl _) | omega | (simp only [World.size_alloc, World.size_setCell, World.size_drew, setRow_size]; omega) | (simp; omega) | (simp; done))))))⟩
            case measure => simp [intOf]; omega
        · have hqn : q = N := by omega
          subst hqn
          go_wp2
          refine Ear.bp_world (Ear.Sh w.heap.size w [(w.heap.size, _, _)]) (.cons (by (repeat' (first | (show Ear.Blk _ _ _ _; with_reducible assumption) | (with_reducible exact Ear.Blk.new _ _ _) | (with_reducible refine Ear.Blk.new' ?_; (simp only [World.size_alloc, World.size_setCell, World.size_drew, setRow_size]; done)) | (with_reducible apply Ear.Blk.alloc) | (with_reducible apply Ear.Blk.drew) | (with_reducible apply Ear.Blk.setC) | (with_reducible apply Ear.Blk.setC' (e := by omega)) | (with_reducible apply Ear.Blk.rowC (e := by first | rfl | omega)) | (with_reducible apply Ear.Blk.otherRow) | (with_reducible apply Ear.Blk.other) | (show _ ≠ _; (try simp only [World.size_alloc, World.size_setCell, World.size_drew, setRow_size]); omega) | (show _ < _; (try simp only [World.size_alloc, World.size_setCell, World.size_drew, setRow_size]); omega)))) (.nil (by (repeat' (first | (with_reducible exact Below.refl _ _) | (with_reducible assumption) | (show Below 0 _ _; with_reducible refine Below.mono (by assumption) (Nat.zero_le _)) | (with_reducible refine below_setRow ?_ ?_ _) | (with_reducible refine Below.alloc ?_ ?_ _) | (with_reducible refine Below.drew ?_) | (with_reducible refine Below.setCell ?_ ?_ _) | (with_reducible refine Below.frame ?_ _) | (with_reducible exact Nat.le_refl _) | omega | (simp only [World.size_alloc, World.size_setCell, World.size_drew, setRow_size]; omega) | (simp; omega) | (simp; done)))))) ?_; (try clear hr_l); (try clear hr_c); (try clear hr_f); (try clear hr); (try clear hB hs); rintro w6 ⟨hr, hB⟩; replace hB : Below w.heap.size w w6 := hB; have hs := hB.size; (try simp only [List.set_cons_zero, List.set_cons_succ] at hr); have hr_l := hr.lt; have hr_c := hr.cell; have hr_f := hr.frozen
          refine bodyPost_ret (v := .tuple #[.agg #[.int .u32 (Ear.wd (coverTo f l q) 0), .int .u32 (Ear.wd (coverTo f l q) 1), .int .u32 (Ear.wd (coverTo f l q) 2), .int .u32 (Ear.wd (coverTo f l q) 3)], .int .i64 0]) (by simp [results, Try.results27, go_sem, *]) rfl ⟨rfl, hB⟩
set_option maxRecDepth 100000 in
set_option maxHeartbeats 4000000 in
theorem RCover_arg (n f : Int) (N : Nat) (base : Option Addr) (cap : Nat) (w : World) (h : n < 1 ∨ 100 < n ∨ f < 0 ∨ n ≤ f) :
    Calls Try.prog 28 #[.int .i64 n, .int .i64 f, .slice base N cap] w fun e w' => e = .returned (.tuple #[.agg #[.int .u32 0, .int .u32 0, .int .u32 0, .int .u32 0], .int .i64 1]) ∧ Below w.heap.size w w' := by
  have h' : n < 1 ∨ (1 ≤ n ∧ 100 < n) ∨ (1 ≤ n ∧ n ≤ 100 ∧ f < 0) ∨ (1 ≤ n ∧ n ≤ 100 ∧ 0 ≤ f ∧ n ≤ f) := by omega
  clear h
  rcases h' with a1 | ⟨a1, a2⟩ | ⟨a1, a2, a3⟩ | ⟨a1, a2, a3, a4⟩
  all_goals
    go_enter Try.func28, Try.ntmps28
    go_wp2
    refine Ear.bp_world (Ear.Sh w.heap.size w [(w.heap.size, _, _)]) (.cons (by (repeat' (first | (show Ear.Blk _ _ _ _; with_reducible assumption) | (with_reducible exact Ear.Blk.new _ _ _) | (with_reducible refine Ear.Blk.new' ?_; (simp only [World.size_alloc, World.size_setCell, World.size_drew, setRow_size]; done)) | (with_reducible apply Ear.Blk.alloc) | (with_reducible apply Ear.Blk.drew) | (with_reducible apply Ear.Blk.setC) | (with_reducible apply Ear.Blk.setC' (e := by omega)) | (with_reducible apply Ear.Blk.rowC (e := by first | rfl | omega)) | (with_reducible apply Ear.Blk.otherRow) | (with_reducible apply Ear.Blk.other) | (show _ ≠ _; (try simp only [World.size_alloc, World.size_setCell, World.size_drew, setRow_size]); omega) | (show _ < _; (try simp only [World.size_alloc, World.size_setCell, World.size_drew, setRow_size]); omega)))) (.nil (by (repeat' (first | (with_reducible exact Below.refl _ _) | (with_reducible assumption) | (show Below 0 _ _; with_reducible refine Below.mono (by assumption) (Nat.zero_le _)) | (with_reducible refine below_setRow ?_ ?_ _) | (with_reducible refine Below.alloc ?_ ?_ _) | (with_reducible refine Below.drew ?_) | (with_reducible refine Below.setCell ?_ ?_ _) | (with_reducible refine Below.frame ?_ _) | (with_reducible exact Nat.le_refl _) | omega | (simp only [World.size_alloc, World.size_setCell, World.size_drew, setRow_size]; omega) | (simp; omega) | (simp; done)))))) ?_; (try clear hr_l); (try clear hr_c); (try clear hr_f); (try clear hr); (try clear hB hs); rintro w2 ⟨hr, hB⟩; replace hB : Below w.heap.size w w2 := hB; have hs := hB.size; (try simp only [List.set_cons_zero, List.set_cons_succ] at hr); have hr_l := hr.lt; have hr_c := hr.cell; have hr_f := hr.frozen
    refine bodyPost_ret (v := .tuple #[.agg #[.int .u32 0, .int .u32 0, .int .u32 0, .int .u32 0], .int .i64 1]) (by simp [results, Try.results28, go_sem, *]) rfl ⟨rfl, hB⟩
set_option maxRecDepth 100000 in
set_option maxHeartbeats 4000000 in
theorem RCover_in (n f : Int) (l : List (BitVec 128)) (base : Option Addr) (cap : Nat) (w : World) (h1 : 1 ≤ n) (h2 : n ≤ 100) (h3 : 0 ≤ f) (h4 : f < n) (hn : l.length ≤ 100000) (hl : LiesV (setsV l) base w) {m : BitVec 128} {c : Int} (hm : (if allIn n l = true then (coverTo f l n.toNat, 0) else (0#128, 74)) = (m, c)) :
    Calls Try.prog 28 #[.int .i64 n, .int .i64 f, .slice base l.length cap] w fun e w' => e = .returned (.tuple #[.agg #[.int .u32 (Ear.wd (m) 0), .int .u32 (Ear.wd (m) 1), .int .u32 (Ear.wd (m) 2), .int .u32 (Ear.wd (m) 3)], .int .i64 c]) ∧ Below w.heap.size w w' := by
  have HL := Lib.hid hl
  have HM := Lib.hid hm
  obtain ⟨N, rfl⟩ := Int.eq_ofNat_of_zero_le (show 0 ≤ n by omega)
  clear hl hm
  go_enter Try.func28, Try.ntmps28
  go_wp2
  refine Ear.wp_world (Ear.Sh w.heap.size w [(w.heap.size, _, _)]) (.cons (by (repeat' (first | (show Ear.Blk _ _ _ _; with_reducible assumption) | (with_reducible exact Ear.Blk.new _ _ _) | (with_reducible refine Ear.Blk.new' ?_; (simp only [World.size_alloc, World.size_setCell, World.size_drew, setRow_size]; done)) | (with_reducible apply Ear.Blk.alloc) | (with_reducible apply Ear.Blk.drew) | (with_reducible apply Ear.Blk.setC) | (with_reducible apply Ear.Blk.setC' (e := by omega)) | (with_reducible apply Ear.Blk.rowC (e := by first | rfl | omega)) | (with_reducible apply Ear.Blk.otherRow) | (with_reducible apply Ear.Blk.other) | (show _ ≠ _; (try simp only [World.size_alloc, World.size_setCell, World.size_drew, setRow_size]); omega) | (show _ < _; (try simp only [World.size_alloc, World.size_setCell, World.size_drew, setRow_size]); omega)))) (.nil (by (repeat' (first | (with_reducible exact Below.refl _ _) | (with_reducible assumption) | (show Below 0 _ _; with_reducible refine Below.mono (by assumption) (Nat.zero_le _)) | (with_reducible refine below_setRow ?_ ?_ _) | (with_reducible refine Below.alloc ?_ ?_ _) | (with_reducible refine Below.drew ?_) | (with_reducible refine Below.setCell ?_ ?_ _) | (with_reducible refine Below.frame ?_ _) | (with_reducible exact Nat.le_refl _) | omega | (simp only [World.size_alloc, World.size_setCell, World.size_drew, setRow_size]; omega) | (simp; omega) | (simp; done)))))) ?_; (try clear hr_l); (try clear hr_c); (try clear hr_f); (try clear hr); (try clear hB hs); rintro w1 ⟨hr, hB⟩; replace hB : Below w.heap.size w w1 := hB; have hs := hB.size; (try simp only [List.set_cons_zero, List.set_cons_succ] at hr); have hr_l := hr.lt; have hr_c := hr.cell; have hr_f := hr.frozen
  have hr0 := hr
  have hs1 : w.heap.size + 1 ≤ w1.heap.size := hr_l
  have hB1 := hB
  clear hr_l hr_c hr_f
  go_loopw [8] (fun i wr => ∃ k : Nat, k ≤ l.length ∧ i = .int .i64 k ∧ Hid (∀ j (hj : j < l.length), j < k → within l[j] (N : Int) = true) ∧ Below w1.heap.size w1 wr) (fun i _ => l.length - (intOf i).toNat)
  case atStart => exact ⟨0, by omega, rfl, fun j hj h0 => by omega, Below.refl _ _⟩
  case round =>
    obtain ⟨k, hk, rfl, hv, hBr⟩ := hrel
    have hsr := hBr.size
    have hBw := hB.trans (hBr.mono (by omega))
    by_cases hlt : k < l.length
    · obtain ⟨B1, o1, rfl, hl1, a0, a1, a2, a3⟩ := set_cells k hlt (HL.out.below hB1) hBr (Nat.le_refl _)
      have HW := Lib.hid (wrap_in k l.length hlt hn)
      obtain ⟨x, hx⟩ : ∃ x, l[k] = x := ⟨_, rfl⟩
      have HX := Lib.hid hx
      rw [hx] at a0 a1 a2 a3
      obtain ⟨vb, hvb⟩ : ∃ vb, within x (N : Int) = vb := ⟨_, rfl⟩
      have HV := Lib.hid hvb
      clear hx hvb
      cases vb with
      | false =>
        have hm := HM.out
        rw [if_neg (by intro hall; have := allIn_get hall k hlt; rw [HX.out, HV.out] at this; cases this)] at hm
        obtain ⟨rfl, rfl⟩ := Prod.mk.inj hm
        clear hm
        go_wp2_with (go_at_call 41; (with_reducible refine Calls.mono (RWithin_eq HV.out _) ?_); rintro e w2 ⟨rfl, hb2⟩; have hB2 : Below w1.heap.size w1 w2 := hBr.trans (Below.trans (by (repeat' (first | (with_reducible exact Below.refl _ _) | (with_reducible assumption) | (show Below 0 _ _; with_reducible refine Below.mono (by assumption) (Nat.zero_le _)) | (with_reducible refine below_setRow ?_ ?_ _) | (with_reducible refine Below.alloc ?_ ?_ _) | (with_reducible refine Below.drew ?_) | (with_reducible refine Below.setCell ?_ ?_ _) | (with_reducible refine Below.frame ?_ _) | (with_reducible exact Nat.le_refl _) | omega | (simp only [World.size_alloc, World.size_setCell, World.size_drew, setRow_size]; omega) | (simp; omega) | (simp; done)))) (hb2.mono (by (try simp only [World.size_alloc, World.size_setCell, World.size_drew, setRow_size]); omega))); have hB := hB1.trans (hB2.mono (by omega)); have hr := hr0.below hB2 (by omega); have hr_l := hr.lt; have hr_c := hr.cell; have hr_f := hr.frozen)
        refine Ear.bp_world (Ear.Sh w.heap.size w [(w.heap.size, _, _)]) (.cons (by (repeat' (first | (show Ear.Blk _ _ _ _; with_reducible assumption) | (with_reducible exact Ear.Blk.new _ _ _) | (with_reducible refine Ear.Blk.new' ?_; (simp only [World.size_alloc, World.size_setCell, World.size_drew, setRow_size]; done)) | (with_reducible apply Ear.Blk.alloc) | (with_reducible apply Ear.Blk.drew) | (with_reducible apply Ear.Blk.setC) | (with_reducible apply Ear.Blk.setC' (e := by omega)) | (with_reducible apply Ear.Blk.rowC (e := by first | rfl | omega)) | (with_reducible apply Ear.Blk.otherRow) | (with_reducible apply Ear.Blk.other) | (show _ ≠ _; (try simp only [World.size_alloc, World.size_setCell, World.size_drew, setRow_size]); omega) | (show _ < _; (try simp only [World.size_alloc, World.size_setCell, World.size_drew, setRow_size]); omega)))) (.nil (by (repeat' (first | (with_reducible exact Below.refl _ _) | (with_reducible assumption) | (show Below 0 _ _; with_reducible refine Below.mono (by assumption) (Nat.zero_le _)) | (with_reducible refine below_setRow ?_ ?_ _) | (with_reducible refine Below.alloc ?_ ?_ _) | (with_reducible refine Below.drew ?_) | (with_reducible refine Below.setCell ?_ ?_ _) | (with_reducible refine Below.frame ?_ _) | (with_reducible exact Nat.le_refl _) | omega | (simp only [World.size_alloc, World.size_setCell, World.size_drew, setRow_size]; omega) | (simp; omega) | (simp; done)))))) ?_; (try clear hr_l); (try clear hr_c); (try clear hr_f); (try clear hr); (try clear hB hs); rintro w3 ⟨hr, hB⟩; replace hB : Below w.heap.size w w3 := hB; have hs := hB.size; (try simp only [List.set_cons_zero, List.set_cons_succ] at hr); have hr_l := hr.lt; have hr_c := hr.cell; have hr_f := hr.frozen
        refine bodyPost_ret (v := .tuple #[.agg #[.int .u32 0, .int .u32 0, .int .u32 0, .int .u32 0], .int .i64 74]) (by simp [results, Try.results28, go_sem, *]) rfl ⟨by simp only [Ear.wd_zero], hB⟩
      | true =>
        go_wp2_with (go_at_call 41; (with_reducible refine Calls.mono (RWithin_eq HV.out _) ?_); rintro e w2 ⟨rfl, hb2⟩; have hB2 : Below w1.heap.size w1 w2 := hBr.trans (Below.trans (by (repeat' (first | (with_reducible exact Below.refl _ _) | (with_reducible assumption) | (show Below 0 _ _; with_reducible refine Below.mono (by assumption) (Nat.zero_le _)) | (with_reducible refine below_setRow ?_ ?_ _) | (with_reducible refine Below.alloc ?_ ?_ _) | (with_reducible refine Below.drew ?_) | (with_reducible refine Below.setCell ?_ ?_ _) | (with_reducible refine Below.frame ?_ _) | (with_reducible exact Nat.le_refl _) | omega | (simp only [World.size_alloc, World.size_setCell, World.size_drew, setRow_size]; omega) | (simp; omega) | (simp; done)))) (hb2.mono (by (try simp only [World.size_alloc, World.size_setCell, World.size_drew, setRow_size]); omega))))
        go_roundw
        case rel =>
          refine ⟨k + 1, hlt, by go_num, (fun j hj hjk => ?_), hB2⟩
          by_cases hjk' : j = k
          · subst hjk'; rw [HX.out]; exact HV.out
          · exact hv.out j hj (by omega)
        case measure => simp [intOf]; omega
    · have hm := HM.out
      have hall : allIn (N : Int) l = true := by
        cases hq : allIn (N : Int) l with
        | true => rfl
        | false => exact (allIn_not hq (fun j hj => hv.out j hj (by omega))).elim
      rw [if_pos hall, Int.toNat_natCast] at hm
      obtain ⟨rfl, rfl⟩ := Prod.mk.inj hm
      clear hm hv
      have hr := hr0.below hBr (by omega)
      have hr_l := hr.lt
      have hXw : w.heap.size < wr.heap.size := hr_l
      have HLr := Lib.hid (HL.out.below hBw)
      have hz0 : ([.int .u32 (Ear.wd (coverTo f l 0) 0), .int .u32 (Ear.wd (coverTo f l 0) 1), .int .u32 (Ear.wd (coverTo f l 0) 2), .int .u32 (Ear.wd (coverTo f l 0) 3)] : List Value) = [.int .u32 0, .int .u32 0, .int .u32 0, .int .u32 0] := by rw [coverTo_zero]; simp only [Ear.wd_zero]
      have HZ0 := Lib.hid hz0
      clear hz0
      go_wp2
      refine Ear.wp_world (Ear.Sh w.heap.size w [(w.heap.size, _, _), (wr.heap.size, _, _)]) (.cons (by (repeat' (first | (show Ear.Blk _ _ _ _; with_reducible assumption) | (with_reducible exact Ear.Blk.new _ _ _) | (with_reducible refine Ear.Blk.new' ?_; (simp only [World.size_alloc, World.size_setCell, World.size_drew, setRow_size]; done)) | (with_reducible apply Ear.Blk.alloc) | (with_reducible apply Ear.Blk.drew) | (with_reducible apply Ear.Blk.setC) | (with_reducible apply Ear.Blk.setC' (e := by omega)) | (with_reducible apply Ear.Blk.rowC (e := by first | rfl | omega)) | (with_reducible apply Ear.Blk.otherRow) | (with_reducible apply Ear.Blk.other) | (show _ ≠ _; (try simp only [World.size_alloc, World.size_setCell, World.size_drew, setRow_size]); omega) | (show _ < _; (try simp only [World.size_alloc, World.size_setCell, World.size_drew, setRow_size]); omega)))) (.cons (by (repeat' (first | (show Ear.Blk _ _ _ _; with_reducible assumption) | (with_reducible exact Ear.Blk.new _ _ _) | (with_reducible refine Ear.Blk.new' ?_; (simp only [World.size_alloc, World.size_setCell, World.size_drew, setRow_size]; done)) | (with_reducible apply Ear.Blk.alloc) | (with_reducible apply Ear.Blk.drew) | (with_reducible apply Ear.Blk.setC) | (with_reducible apply Ear.Blk.setC' (e := by omega)) | (with_reducible apply Ear.Blk.rowC (e := by first | rfl | omega)) | (with_reducible apply Ear.Blk.otherRow) | (with_reducible apply Ear.Blk.other) | (show _ ≠ _; (try simp only [World.size_alloc, World.size_setCell, World.size_drew, setRow_size]); omega) | (show _ < _; (try simp only [World.size_alloc, World.size_setCell, World.size_drew, setRow_size]); omega)))) (.nil (by (repeat' (first | (with_reducible exact Below.refl _ _) | (with_reducible assumption) | (show Below 0 _ _; with_reducible refine Below.mono (by assumption) (Nat.zero_le _)) | (with_reducible refine below_setRow ?_ ?_ _) | (with_reducible refine Below.alloc ?_ ?_ _) | (with_reducible refine Below.drew ?_) | (with_reducible refine Below.setCell ?_ ?_ _) | (with_reducible refine Below.frame ?_ _) | (with_reducible exact Nat.le_refl _) | omega | (simp only [World.size_alloc, World.size_setCell, World.size_drew, setRow_size]; omega) | (simp; omega) | (simp; done))))))) ?_; (try clear hr_l); (try clear hr_c); (try clear hr_f); (try clear hr); (try clear ho_l); (try clear ho_c); (try clear ho_f); (try clear ho); (try clear hB hs); rintro w2 ⟨hr, ho, hB⟩; replace hB : Below w.heap.size w w2 := hB; have hs := hB.size; (try simp only [List.set_cons_zero, List.set_cons_succ] at hr); (try simp only [List.set_cons_zero, List.set_cons_succ] at ho); have hr_l := hr.lt; have hr_c := hr.cell; have hr_f := hr.frozen; have ho_l := ho.lt; have ho_c := ho.cell; have ho_f := ho.frozen
      obtain ⟨X, hX⟩ : ∃ X, wr.heap.size = X := ⟨_, rfl⟩
      rw [hX] at ho hXw ho_l ho_c ho_f ⊢
      have hXne : w.heap.size ≠ X := by omega
      clear hr_l hr_c hr_f ho_l ho_c ho_f hX
      have HL2 := Lib.hid (HL.out.below hB)
      go_loopw [10] (fun i wq => ∃ k : Nat, k ≤ N ∧ i = .int .i64 k ∧ Ear.Sh w.heap.size w [(w.heap.size, 26, [.int .u32 0, .int .u32 0, .int .u32 0, .int .u32 0]), (X, 26, [.int .u32 (Ear.wd (coverTo f l k) 0), .int .u32 (Ear.wd (coverTo f l k) 1), .int .u32 (Ear.wd (coverTo f l k) 2), .int .u32 (Ear.wd (coverTo f l k) 3)])] wq) (fun i _ => N - (intOf i).toNat)
      case atStart => exact ⟨0, by omega, rfl, .cons hr (.cons (by rw [HZ0.out]; exact ho) (.nil hB))⟩
      case round =>
        clear ho hr hB hs
        obtain ⟨q, hq, rfl, hr, ho, hB⟩ := hrel
        replace hB : Below w.heap.size w _ := hB; have hs := hB.size; have hr_l := hr.lt; have hr_c := hr.cell; have hr_f := hr.frozen; have ho_l := ho.lt; have ho_c := ho.cell; have ho_f := ho.frozen
        by_cases hqt : q < N
        · have HW := Lib.hid (wrap_in q N hqt (by omega))
          have HS := Lib.hid (coverTo_succ f l q)
          obtain ⟨u, hu⟩ : ∃ u, coverTo f l q = u := ⟨_, rfl⟩
          rw [hu] at HS
          rw [hu] at ho ho_c
          clear hu
          obtain ⟨wo, hwo⟩ : ∃ wo : World, wo = wr := ⟨_, rfl⟩
          subst hwo
          have hro := hr
          have hoo := ho
          have hBo := hB
          go_wp2
          go_loopw [11, 12] (fun v i wz => ∃ k : Nat, k ≤ l.length ∧ i = .int .i64 k ∧ v = .int .i64 (cntL (l.take k) (q : Int) : Int) ∧ Below wo.heap.size wo wz) (fun _ i _ => l.length - (intOf i).toNat)
          case atStart => exact ⟨0, by omega, rfl, by rw [cntL_zero]; rfl, Below.refl _ _⟩
          case round =>
            clear hr hr_l hr_c hr_f ho ho_l ho_c ho_f
            obtain ⟨k2, hk2, rfl, rfl, hBz⟩ := hrel
            have hsz := hBz.size
            by_cases hlt2 : k2 < l.length
            · obtain ⟨B2, o2, rfl, hl2, a0, a1, a2, a3⟩ := set_cells k2 hlt2 (HL.out.below hBo) hBz (Nat.le_refl _)
              have HW2 := Lib.hid (wrap_in k2 l.length hlt2 hn)
              have HS2 := Lib.hid (cntL_succ l (q : Int) k2 hlt2)
              have hck : cntL (l.take k2) (q : Int) ≤ 100000 := by have := cntL_le (l.take k2) (q : Int); have := List.length_take_le k2 l; omega
              obtain ⟨x, hx⟩ : ∃ x, l[k2] = x := ⟨_, rfl⟩
              rw [hx] at a0 a1 a2 a3 HS2
              obtain ⟨c, hc⟩ : ∃ c, cntL (l.take k2) (q : Int) = c := ⟨_, rfl⟩
              rw [hc] at HS2 hck ⊢
              obtain ⟨b, hb⟩ : ∃ b, hasV x (q : Int) = b := ⟨_, rfl⟩
              have HB := Lib.hid hb
              have HW3 := Lib.hid (wrap_c c hck)
              clear hx hc hb
              cases b
              all_goals
                go_wp2_with (go_at_call 67; (with_reducible refine Calls.mono (RHas_vE HB.out _) ?_); rintro e w6 ⟨rfl, hb6⟩; have hBz6 : Below wo.heap.size wo w6 := hBz.trans (hb6.mono hsz))
                go_roundw
                case rel => exact ⟨k2 + 1, hlt2, by go_num, by rw [HS2.out, HB.out]; first | rfl | (simp; done) | go_num, hBz6⟩
                case measure => simp [intOf]; omega
            · have hkl2 : k2 = l.length := by omega
              subst hkl2
              rw [List.take_length]
              obtain ⟨c, hc⟩ : ∃ c, cntL l (q : Int) = c := ⟨_, rfl⟩
              rw [hc] at HS ⊢
              have hr := hro.below hBz hro.lt
              have ho := hoo.below hBz hoo.lt
              have hB : Below w.heap.size w _ := hBo.trans (hBz.mono hs)
              have hs := hB.size
              have hr_l := hr.lt
              have ho_l := ho.lt
              have ho_c := ho.cell
              have ho_f := ho.frozen
              clear hc
              by_cases hf : f < (c : Int)
              · have HN := Lib.hid (show coverTo f l (q + 1) = withV u (q : Int) from by rw [HS.out, if_pos hf])
                go_wp2_with (go_at_call 68; (with_reducible refine Calls.mono (Put_val u (q : Int) _) ?_); rintro e w5 ⟨rfl, hb5⟩; have hB' : Below w.heap.size w w5 := Below.trans (by (repeat' (first | (with_reducible exact Below.refl _ _) | (with_reducible assumption) | (show Below 0 _ _; with_reducible refine Below.mono (by assumption) (Nat.zero_le _)) | (with_reducible refine below_setRow ?_ ?_ _) | (with_reducible refine Below.alloc ?_ ?_ _) | (with_reducible refine Below.drew ?_) | (with_reducible refine Below.setCell ?_ ?_ _) | (with_reducible refine Below.frame ?_ _) | (with_reducible exact Nat.le_refl _) | omega | (simp only [World.size_alloc, World.size_setCell, World.size_drew, setRow_size]; omega) | (simp; omega) | (simp; done)))) (hb5.mono (by (try simp only [World.size_alloc, World.size_setCell, World.size_drew, setRow_size]); omega)); have hr' := (show Ear.Blk w5 (w.heap.size) _ _ from by (repeat' (first | (show Ear.Blk _ _ _ _; with_reducible assumption) | (with_reducible exact Ear.Blk.new _ _ _) | (with_reducible refine Ear.Blk.new' ?_; (simp only [World.size_alloc, World.size_setCell, World.size_drew, setRow_size]; done)) | (with_reducible apply Ear.Blk.alloc) | (with_reducible apply Ear.Blk.drew) | (with_reducible apply Ear.Blk.setC) | (with_reducible apply Ear.Blk.setC' (e := by omega)) | (with_reducible apply Ear.Blk.rowC (e := by first | rfl | omega)) | (with_reducible apply Ear.Blk.otherRow) | (with_reducible apply Ear.Blk.other) | (with_reducible apply Ear.Blk.below (hb := hb5)) | (show _ ≠ _; (try simp only [World.size_alloc, World.size_setCell, World.size_drew, setRow_size]); omega) | (show _ < _; (try simp only [World.size_alloc, World.size_setCell, World.size_drew, setRow_size]); omega)))); have ho' := (show Ear.Blk w5 (X) _ _ from by (repeat' (first | (show Ear.Blk _ _ _ _; with_reducible assumption) | (with_reducible exact Ear.Blk.new _ _ _) | (with_reducible refine Ear.Blk.new' ?_; (simp only [World.size_alloc, World.size_setCell, World.size_drew, setRow_size]; done)) | (with_reducible apply Ear.Blk.alloc) | (with_reducible apply Ear.Blk.drew) | (with_reducible apply Ear.Blk.setC) | (with_reducible apply Ear.Blk.setC' (e := by omega)) | (with_reducible apply Ear.Blk.rowC (e := by first | rfl | omega)) | (with_reducible apply Ear.Blk.otherRow) | (with_reducible apply Ear.Blk.other) | (with_reducible apply Ear.Blk.below (hb := hb5)) | (show _ ≠ _; (try simp only [World.size_alloc, World.size_setCell, World.size_drew, setRow_size]); omega) | (show _ < _; (try simp only [World.size_alloc, World.size_setCell, World.size_drew, setRow_size]); omega)))); clear hb5; (try clear hr_l); (try clear hr_c); (try clear hr_f); (try clear hr); have hr := hr'; clear hr'; (try simp only [List.set_cons_zero, List.set_cons_succ] at hr); have hr_l := hr.lt; have hr_c := hr.cell; have hr_f := hr.frozen; (try clear ho_l); (try clear ho_c); (try clear ho_f); (try clear ho); have ho := ho'; clear ho'; (try simp only [List.set_cons_zero, List.set_cons_succ] at ho); have ho_l := ho.lt; have ho_c := ho.cell; have ho_f := ho.frozen; (try clear hB hs); have hB := hB'; clear hB'; have hs := hB.size)
                go_roundw
                case rel => exact ⟨q + 1, hqt, by go_num, .cons (by (repeat' (first | (show Ear.Blk _ _ _ _; with_reducible assumption) | (with_reducible exact Ear.Blk.new _ _ _) | (with_reducible refine Ear.Blk.new' ?_; (simp only [World.size_alloc, World.size_setCell, World.size_drew, setRow_size]; done)) | (with_reducible apply Ear.Blk.alloc) | (with_reducible apply Ear.Blk.drew) | (with_reducible apply Ear.Blk.setC) | (with_reducible apply Ear.Blk.setC' (e := by omega)) | (with_reducible apply Ear.Blk.rowC (e := by first | rfl | omega)) | (with_reducible apply Ear.Blk.otherRow) | (with_reducible apply Ear.Blk.other) | (show _ ≠ _; (try simp only [World.size_alloc, World.size_setCell, World.size_drew, setRow_size]); omega) | (show _ < _; (try simp only [World.size_alloc, World.size_setCell, World.size_drew, setRow_size]); omega)))) (.cons (by rw [HN.out]; exact Ear.Blk.renew (by (repeat' (first | (show Ear.Blk _ _ _ _; with_reducible assumption) | (with_reducible exact Ear.Blk.new _ _ _) | (with_reducible refine Ear.Blk.new' ?_; (simp only [World.size_alloc, World.size_setCell, World.size_drew, setRow_size]; done)) | (with_reducible apply Ear.Blk.alloc) | (with_reducible apply Ear.Blk.drew) | (with_reducible apply Ear.Blk.setC) | (with_reducible apply Ear.Blk.setC' (e := by omega)) | (with_reducible apply Ear.Blk.rowC (e := by first | rfl | omega)) | (with_reducible apply Ear.Blk.otherRow) | (with_reducible apply Ear.Blk.other) | (show _ ≠ _; (try simp only [World.size_alloc, World.size_setCell, World.size_drew, setRow_size]); omega) | (show _ < _; (try simp only [World.size_alloc, World.size_setCell, World.size_drew, setRow_size]); omega)))) (by rfl)) (.nil (by (repeat' (first | (with_reducible exact Below.refl _ _) | (with_reducible assumption) | (show Below 0 _ _; with_reducible refine Below.mono (by assumption) (Nat.zero_le _)) | (with_reducible refine below_setRow ?_ ?_ _) | (with_reducible refine Below.alloc ?_ ?_ _) | (with_reducible refine Below.drew ?_) | (with_reducible refine Below.setCell ?_ ?_ _) | (with_reducible refine Below.frame ?_ _) | (with_reducible exact Nat.le_refl _) | omega | (simp only [World.size_alloc, World.size_setCell, World.size_drew, setRow_size]; omega) | (simp; omega) | (simp; done))))))⟩
                case measure => simp [intOf]; omega
              · have HN := Lib.hid (show coverTo f l (q + 1) = u from by rw [HS.out, if_neg hf])
                go_wp2
                go_roundw
                case rel => exact ⟨q + 1, hqt, by go_num, .cons (by (repeat' (first | (show Ear.Blk _ _ _ _; with_reducible assumption) | (with_reducible exact Ear.Blk.new _ _ _) | (with_reducible refine Ear.Blk.new' ?_; (simp only [World.size_alloc, World.size_setCell, World.size_drew, setRow_size]; done)) | (with_reducible apply Ear.Blk.alloc) | (with_reducible apply Ear.Blk.drew) | (with_reducible apply Ear.Blk.setC) | (with_reducible apply Ear.Blk.setC' (e := by omega)) | (with_reducible apply Ear.Blk.rowC (e := by first | rfl | omega)) | (with_reducible apply Ear.Blk.otherRow) | (with_reducible apply Ear.Blk.other) | (show _ ≠ _; (try simp only [World.size_alloc, World.size_setCell, World.size_drew, setRow_size]); omega) | (show _ < _; (try simp only [World.size_alloc, World.size_setCell, World.size_drew, setRow_size]); omega)))) (.cons (by rw [HN.out]; exact Ear.Blk.renew (by (repeat' (first | (show Ear.Blk _ _ _ _; with_reducible assumption) | (with_reducible exact Ear.Blk.new _ _ _) | (with_reducible refine Ear.Blk.new' ?_; (simp only [World.size_alloc, World.size_setCell, World.size_drew, setRow_size]; done)) | (with_reducible apply Ear.Blk.alloc) | (with_reducible apply Ear.Blk.drew) | (with_reducible apply Ear.Blk.setC) | (with_reducible apply Ear.Blk.setC' (e := by omega)) | (with_reducible apply Ear.Blk.rowC (e := by first | rfl | omega)) | (with_reducible apply Ear.Blk.otherRow) | (with_reducible apply Ear.Blk.other) | (show _ ≠ _; (try simp only [World.size_alloc, World.size_setCell, World.size_drew, setRow_size]); omega) | (show _ < _; (try simp only [World.size_alloc, World.size_setCell, World.size_drew, setRow_size]); omega)))) (by rfl)) (.nil (by (repeat' (first | (with_reducible exact Below.refl _ _) | (with_reducible assumption) | (show Below 0 _ _; with_reducible refine Below.mono (by assumption) (Nat.zero_le _)) | (with_reducible refine below_setRow ?_ ?_ _) | (with_reducible refine Below.alloc ?_ ?_ _) | (with_reducible refine Below.drew ?_) | (with_reducible refine Below.setCell ?_ ?_ _) | (with_reducible refine Below.frame ?_ _) | (with_reducible exact Nat.le_refl _) | omega | (simp only [World.size_alloc, World.size_setCell, World.size_drew, setRow_size]; omega) | (simp; omega) | (simp; done))))))⟩
                case measure => simp [intOf]; omega
        · have hqn : q = N := by omega
          subst hqn
          go_wp2
          refine Ear.bp_world (Ear.Sh w.heap.size w [(w.heap.size, _, _)]) (.cons (by (repeat' (first | (show Ear.Blk _ _ _ _; with_reducible assumption) | (with_reducible exact Ear.Blk.new _ _ _) | (with_reducible refine Ear.Blk.new' ?_; (simp only [World.size_alloc, World.size_setCell, World.size_drew, setRow_size]; done)) | (with_reducible apply Ear.Blk.alloc) | (with_reducible apply Ear.Blk.drew) | (with_reducible apply Ear.Blk.setC) | (with_reducible apply Ear.Blk.setC' (e := by omega)) | (with_reducible apply Ear.Blk.rowC (e := by first | rfl | omega)) | (with_reducible apply Ear.Blk.otherRow) | (with_reducible apply Ear.Blk.other) | (show _ ≠ _; (try simp only [World.size_alloc, World.size_setCell, World.size_drew, setRow_size]); omega) | (show _ < _; (try simp only [World.size_alloc, World.size_setCell, World.size_drew, setRow_size]); omega)))) (.nil (by (repeat' (first | (with_reducible exact Below.refl _ _) | (with_reducible assumption) | (show Below 0 _ _; with_reducible refine Below.mono (by assumption) (Nat.zero_le _)) | (with_reducible refine below_setRow ?_ ?_ _) | (with_reducible refine Below.alloc ?_ ?_ _) | (with_reducible refine Below.drew ?_) | (with_reducible refine Below.setCell ?_ ?_ _) | (with_reducible refine Below.frame ?_ _) | (with_reducible exact Nat.le_refl _) | omega | (simp only [World.size_alloc, World.size_setCell, World.size_drew, setRow_size]; omega) | (simp; omega) | (simp; done)))))) ?_; (try clear hr_l); (try clear hr_c); (try clear hr_f); (try clear hr); (try clear hB hs); rintro w6 ⟨hr, hB⟩; replace hB : Below w.heap.size w w6 := hB; have hs := hB.size; (try simp only [List.set_cons_zero, List.set_cons_succ] at hr); have hr_l := hr.lt; have hr_c := hr.cell; have hr_f := hr.frozen
          refine bodyPost_ret (v := .tuple #[.agg #[.int .u32 (Ear.wd (coverTo f l q) 0), .int .u32 (Ear.wd (coverTo f l q) 1), .int .u32 (Ear.wd (coverTo f l q) 2), .int .u32 (Ear.wd (coverTo f l q) 3)], .int .i64 0]) (by simp [results, Try.results28, go_sem, *]) rfl ⟨rfl, hB⟩
end Go.Proofs.Ytfnolmlmmimehaa
