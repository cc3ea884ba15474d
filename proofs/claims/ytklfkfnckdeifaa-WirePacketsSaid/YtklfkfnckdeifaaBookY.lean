/-
  SameNotices, Rising, and the suspected nodes bit by bit.
-/
import Derived.Test.YtklfkfnckdeifaaBookX
namespace Go.Proofs.Ytklfkfnckdeifaa
set_option linter.unusedSimpArgs false
set_option linter.unusedVariables false
open Go.RowKit
attribute [local irreducible] Ear.Pl.wpQ Ear.Pa.wpQ Ear.Fe.wpQ Ear.Fa.wpQ
theorem withV_bit (s : BitVec 128) (k i : Nat) (hk : k < 100) : (withV s (k : Int)).getLsbD i = ((s.getLsbD i && decide (i < 100)) || decide (i = k)) := by
  unfold withV
  rw [if_pos (by omega), Int.toNat_natCast, BitVec.getLsbD_or, Ear.clean_bit, Ear.one_bit]
  simp [show k < 128 by omega]
def suspAt (L : List Nt) (i : Nat) : Bool := match L[i]? with | some y => y.kind == 2 | none => false
theorem susp_bit {L : List Nt} (hL : BookOk L) (k : Nat) (hk : k ≤ L.length) (i : Nat) : (suspOf (L.take k)).getLsbD i = (decide (i < k) && suspAt L i) := by
  have hm := hL.most
  induction k with
  | zero => rw [List.take_zero, suspOf_nil]; simp
  | succ k ih =>
    have hlt : k < L.length := by omega
    have ho := (hL.each k hlt).1
    rw [List.take_succ_eq_append_getElem hlt, suspOf_snoc, ho]
    have ihk := ih (by omega)
    have hs : suspAt L k = (L[k].kind == 2) := by unfold suspAt; rw [List.getElem?_eq_getElem hlt]
    by_cases hkd : L[k].kind = 2
    · rw [if_pos hkd, withV_bit _ _ _ (by omega), ihk]
      by_cases hik : i = k
      · subst hik; simp [hs, hkd]
      · have e1 : decide (i < k + 1) = decide (i < k) := by rw [decide_eq_decide]; omega
        by_cases h100 : i < 100
        · simp [hik, e1, h100]
        · have : ¬ i < k := by omega
          simp [hik, e1, this]
    · rw [if_neg hkd, ihk]
      by_cases hik : i = k
      · subst hik; simp [hs, hkd]
      · have e1 : decide (i < k + 1) = decide (i < k) := by rw [decide_eq_decide]; omega
        rw [e1]
theorem susp_has {L : List Nt} (hL : BookOk L) (k : Nat) (hk : k < L.length) : hasV (suspOf L) (k : Int) = (L[k].kind == 2) := by
  have h := susp_bit hL L.length (Nat.le_refl _) k
  rw [List.take_length] at h
  have hm := hL.most
  unfold hasV
  rw [if_pos (by omega), Int.toNat_natCast, h]
  unfold suspAt
  rw [List.getElem?_eq_getElem hk]
  simp [hk]
theorem susp_in {L : List Nt} (hL : BookOk L) : suspOf L &&& Ear.full (Ear.clampN (L.length : Int)) = suspOf L := by
  have hm := hL.most
  have hc : Ear.clampN (L.length : Int) = L.length := by unfold Ear.clampN; rw [if_neg (by omega), if_neg (by omega), Int.toNat_natCast]
  apply BitVec.eq_of_getLsbD_eq
  intro i hi
  have h := susp_bit hL L.length (Nat.le_refl _) i
  rw [List.take_length] at h
  rw [hc, BitVec.getLsbD_and, Ear.full_bit _ _ hm, h]
  by_cases hl : i < L.length <;> simp [hl]
theorem Within_is {v : BitVec 128} {n : Int} (h : v &&& Ear.full (Ear.clampN n) = v) (w : World) : Calls Try.prog 63 #[.agg #[.int .u32 (Ear.wd (v) 0), .int .u32 (Ear.wd (v) 1), .int .u32 (Ear.wd (v) 2), .int .u32 (Ear.wd (v) 3)], .int .i64 n] w fun e w' => e = .returned (.bool true) ∧ Below w.heap.size w w' := by
  have := Within_calls v n w
  rw [decide_eq_true h] at this
  exact this
set_option maxRecDepth 100000 in
set_option maxHeartbeats 1000000 in
theorem SameN_eq (L : List Nt) (b1 b2 : Option Addr) (c1 c2 : Nat) (w : World) (hn : L.length ≤ 5000) (h1 : LiesV (ntsV L) b1 w) (h2 : LiesV (ntsV L) b2 w) :
    Calls Try.prog 23 #[.slice b1 L.length c1, .slice b2 L.length c2] w fun e w' => e = .returned (.bool true) ∧ Below w.heap.size w w' := by
  have H1 := Lib.hid h1
  have H2 := Lib.hid h2
  clear h1 h2
  go_enter Try.func23, Try.ntmps23
  go_wp2
  go_loopw [5] (fun i wr => ∃ k : Nat, k ≤ L.length ∧ i = .int .i64 k ∧ Below w.heap.size w wr) (fun i _ => L.length - (intOf i).toNat)
  case atStart => exact ⟨0, by omega, rfl, by go_grown⟩
  case round =>
    obtain ⟨k, hk, rfl, hB⟩ := hrel
    by_cases hlt : k < L.length
    · obtain ⟨B1, o1, rfl, hl1, a0, a1, a2⟩ := nts_get k hlt H1.out hB (Nat.le_refl _)
      obtain ⟨B2, o2, rfl, hl2, d0, d1, d2⟩ := nts_get k hlt H2.out hB (Nat.le_refl _)
      have hs := hB.size
      have HW := Lib.hid (wrap_bk k L.length hlt hn)
      obtain ⟨x, hx⟩ : ∃ x, L[k] = x := ⟨_, rfl⟩
      rw [hx] at a0 a1 a2 d0 d1 d2
      have e0 : (x.of_ == x.of_) = true := beq_self_eq_true _
      have e1 : (x.tag == x.tag) = true := beq_self_eq_true _
      have e2 : (x.kind == x.kind) = true := beq_self_eq_true _
      clear hx
      go_wp2
      refine Ear.Pl.wp_region_qs 9 (by kernel_rfl) (by kernel_rfl) ?_; simp only [List.take_succ_cons, List.take_zero, List.drop_succ_cons, List.drop_zero]
      (iterate 9 (refine Ear.Pl.wpQ_run (by rfl) ?_; apply Exists.intro; refine ⟨fun K Q hK w' hw' => ?_, ?_⟩; (focus (subst hw'; simp only [Act.put, List.setIfInBounds_toArray, List.set_cons_succ, List.set_cons_zero] at hK; go_wp2; try rfl)); simp only [Act.put, List.setIfInBounds_toArray, List.set_cons_succ, List.set_cons_zero]))
      refine Ear.Pl.wpQ_nil ?_
      rintro w' rfl
      go_wp2
      go_roundw
      case rel => exact ⟨k + 1, hlt, by go_num, by go_grown⟩
      case measure => simp [intOf]; omega
    · go_wp2
      go_ret
      exact ⟨rfl, hB⟩
/-- Are notices right, by rising nodes? -/
def riseFrom (n : Int) : Int → List Nt → Bool
  | _, [] => true
  | last, x :: l => validN n x && decide (last < x.of_) && riseFrom n x.of_ l
theorem rise_book {L : List Nt} (hL : BookOk L) (k : Nat) (hk : k ≤ L.length) : riseFrom L.length ((k : Int) - 1) (L.drop k) = true := by
  have hm := hL.most
  induction hd : L.length - k generalizing k with
  | zero =>
    have : L.drop k = [] := List.drop_of_length_le (by omega)
    rw [this]; rfl
  | succ m ih =>
    have hlt : k < L.length := by omega
    obtain ⟨ho, hr⟩ := hL.each k hlt
    rw [List.drop_eq_getElem_cons hlt]
    simp only [riseFrom]
    rw [valid_of hL.pos hm (by omega) (by omega) hr, ho]
    have := ih (k + 1) (by omega) (by omega)
    rw [show (((k + 1 : Nat) : Int) - 1) = (k : Int) by omega] at this
    rw [this]
    simp; omega
theorem rise_cons (n last : Int) (x : Nt) (l : List Nt) : riseFrom n last (x :: l) = (validN n x && decide (last < x.of_) && riseFrom n x.of_ l) := rfl
attribute [local irreducible] riseFrom validN
set_option maxRecDepth 100000 in
set_option maxHeartbeats 4000000 in
theorem Rising_eq {n : Int} {L : List Nt} {r : Bool} (h : riseFrom n (-1) L = r) (base : Option Addr) (c : Nat) (w : World) (hn : L.length ≤ 5000) (hl : LiesV (ntsV L) base w) :
    Calls Try.prog 66 #[.int .i64 n, .slice base L.length c] w fun e w' => e = .returned (.bool r) ∧ Below w.heap.size w w' := by
  have HL := Lib.hid hl
  have HR := Lib.hid h
  clear hl h
  go_enter Try.func66, Try.ntmps66
  go_wp2
  go_loopw [10, 5] (fun i t wr => ∃ (k : Nat) (last : Int), k ≤ L.length ∧ i = .int .i64 k ∧ t = .int .i64 last ∧ Hid (riseFrom n last (L.drop k) = r) ∧ Below w.heap.size w wr) (fun i _ _ => L.length - (intOf i).toNat)
  case atStart => exact ⟨0, -1, by omega, rfl, rfl, by rw [List.drop_zero]; exact HR, Below.refl _ _⟩
  case round =>
    clear HR
    obtain ⟨k, last, hk, rfl, rfl, HR, hB⟩ := hrel
    have hs := hB.size
    by_cases hlt : k < L.length
    · obtain ⟨B1, o1, rfl, hl1, a0, a1, a2⟩ := nts_get k hlt HL.out hB (Nat.le_refl _)
      have HW := Lib.hid (wrap_bk k L.length hlt hn)
      have hr := HR.out
      rw [List.drop_eq_getElem_cons hlt, rise_cons] at hr
      obtain ⟨x, hx⟩ : ∃ x, L[k] = x := ⟨_, rfl⟩
      rw [hx] at a0 a1 a2 hr
      obtain ⟨vb, hvb⟩ : ∃ vb, validN n x = vb := ⟨_, rfl⟩
      rw [hvb] at hr
      have HV := Lib.hid hvb
      have HR2 := Lib.hid hr
      clear hx hvb hr HR
      cases vb with
      | false =>
        go_wp2_with (go_at_call 64; (with_reducible refine Calls.mono (Valid_eq HV.out _) ?_); rintro e w1 ⟨rfl, hb1⟩; have hB1 : Below w.heap.size w w1 := Below.trans (by (repeat' (first | (with_reducible exact Below.refl _ _) | (with_reducible assumption) | (show Below 0 _ _; with_reducible refine Below.mono (by assumption) (Nat.zero_le _)) | (with_reducible refine below_setRow ?_ ?_ _) | (with_reducible refine Below.alloc ?_ ?_ _) | (with_reducible refine Below.drew ?_) | (with_reducible refine Below.setCell ?_ ?_ _) | (with_reducible refine Below.frame ?_ _) | (with_reducible exact Nat.le_refl _) | omega | (simp only [World.size_alloc, World.size_setCell, World.size_drew, setRow_size]; omega) | (simp; omega) | (simp; done)))) (hb1.mono (by (try simp only [World.size_alloc, World.size_setCell, World.size_drew, setRow_size]); omega)))
        go_ret
        exact ⟨by rw [← HR2.out]; simp, hB1⟩
      | true =>
        by_cases hlast : last < x.of_
        · have hd : decide (x.of_ ≤ last) = false := decide_eq_false (by omega)
          have HR3 := Lib.hid (show riseFrom n x.of_ (L.drop (k + 1)) = r from by rw [← HR2.out, decide_eq_true hlast]; rfl)
          go_wp2_with (go_at_call 64; (with_reducible refine Calls.mono (Valid_eq HV.out _) ?_); rintro e w1 ⟨rfl, hb1⟩; have hB' : Below w.heap.size w w1 := Below.trans (by (repeat' (first | (with_reducible exact Below.refl _ _) | (with_reducible assumption) | (show Below 0 _ _; with_reducible refine Below.mono (by assumption) (Nat.zero_le _)) | (with_reducible refine below_setRow ?_ ?_ _) | (with_reducible refine Below.alloc ?_ ?_ _) | (with_reducible refine Below.drew ?_) | (with_reducible refine Below.setCell ?_ ?_ _) | (with_reducible refine Below.frame ?_ _) | (with_reducible exact Nat.le_refl _) | omega | (simp only [World.size_alloc, World.size_setCell, World.size_drew, setRow_size]; omega) | (simp; omega) | (simp; done)))) (hb1.mono (by (try simp only [World.size_alloc, World.size_setCell, World.size_drew, setRow_size]); omega)); have hx' := (show Ear.Blk w1 (wr.heap.size) _ _ from by (repeat' (first | (show Ear.Blk _ _ _ _; with_reducible assumption) | (with_reducible exact Ear.Blk.new _ _ _) | (with_reducible refine Ear.Blk.new' ?_; (simp only [World.size_alloc, World.size_setCell, World.size_drew, setRow_size]; done)) | (with_reducible apply Ear.Blk.alloc) | (with_reducible apply Ear.Blk.drew) | (with_reducible apply Ear.Blk.setC) | (with_reducible apply Ear.Blk.setC' (e := by omega)) | (with_reducible apply Ear.Blk.rowC (e := by first | rfl | omega)) | (with_reducible apply Ear.Blk.otherRow) | (with_reducible apply Ear.Blk.other) | (with_reducible apply Ear.Blk.below (hb := hb1)) | (show _ ≠ _; (try simp only [World.size_alloc, World.size_setCell, World.size_drew, setRow_size]); omega) | (show _ < _; (try simp only [World.size_alloc, World.size_setCell, World.size_drew, setRow_size]); omega)))); clear hb1; (try clear hx_l); (try clear hx_c); (try clear hx_f); (try clear hx); have hx := hx'; clear hx'; (try simp only [List.set_cons_zero, List.set_cons_succ] at hx); have hx_l := hx.lt; have hx_c := hx.cell; have hx_f := hx.frozen; (try clear hB hs); have hB := hB'; clear hB'; have hs := hB.size)
          go_roundw
          case rel => exact ⟨k + 1, x.of_, hlt, by go_num, rfl, HR3, hB⟩
          case measure => simp [intOf]; omega
        · have hd : decide (x.of_ ≤ last) = true := decide_eq_true (by omega)
          go_wp2_with (go_at_call 64; (with_reducible refine Calls.mono (Valid_eq HV.out _) ?_); rintro e w1 ⟨rfl, hb1⟩; have hB' : Below w.heap.size w w1 := Below.trans (by (repeat' (first | (with_reducible exact Below.refl _ _) | (with_reducible assumption) | (show Below 0 _ _; with_reducible refine Below.mono (by assumption) (Nat.zero_le _)) | (with_reducible refine below_setRow ?_ ?_ _) | (with_reducible refine Below.alloc ?_ ?_ _) | (with_reducible refine Below.drew ?_) | (with_reducible refine Below.setCell ?_ ?_ _) | (with_reducible refine Below.frame ?_ _) | (with_reducible exact Nat.le_refl _) | omega | (simp only [World.size_alloc, World.size_setCell, World.size_drew, setRow_size]; omega) | (simp; omega) | (simp; done)))) (hb1.mono (by (try simp only [World.size_alloc, World.size_setCell, World.size_drew, setRow_size]); omega)); have hx' := (show Ear.Blk w1 (wr.heap.size) _ _ from by (repeat' (first | (show Ear.Blk _ _ _ _; with_reducible assumption) | (with_reducible exact Ear.Blk.new _ _ _) | (with_reducible refine Ear.Blk.new' ?_; (simp only [World.size_alloc, World.size_setCell, World.size_drew, setRow_size]; done)) | (with_reducible apply Ear.Blk.alloc) | (with_reducible apply Ear.Blk.drew) | (with_reducible apply Ear.Blk.setC) | (with_reducible apply Ear.Blk.setC' (e := by omega)) | (with_reducible apply Ear.Blk.rowC (e := by first | rfl | omega)) | (with_reducible apply Ear.Blk.otherRow) | (with_reducible apply Ear.Blk.other) | (with_reducible apply Ear.Blk.below (hb := hb1)) | (show _ ≠ _; (try simp only [World.size_alloc, World.size_setCell, World.size_drew, setRow_size]); omega) | (show _ < _; (try simp only [World.size_alloc, World.size_setCell, World.size_drew, setRow_size]); omega)))); clear hb1; (try clear hx_l); (try clear hx_c); (try clear hx_f); (try clear hx); have hx := hx'; clear hx'; (try simp only [List.set_cons_zero, List.set_cons_succ] at hx); have hx_l := hx.lt; have hx_c := hx.cell; have hx_f := hx.frozen; (try clear hB hs); have hB := hB'; clear hB'; have hs := hB.size)
          go_ret
          exact ⟨by rw [← HR2.out, decide_eq_false (by omega : ¬ last < x.of_)]; rfl, hB⟩
    · have hk' : L.drop k = [] := List.drop_of_length_le (by omega)
      have hr := HR.out
      rw [hk'] at hr
      go_wp2
      go_ret
      exact ⟨by rw [← hr]; unfold riseFrom; rfl, hB⟩
end Go.Proofs.Ytklfkfnckdeifaa
