/-
  What the law BookTwice comes to: what is taken twice.
-/
import Derived.Test.YtfkgllbooopfdaaBookR
namespace Go.Proofs.Ytfkgllbooopfdaa
set_option linter.unusedSimpArgs false
set_option linter.unusedVariables false
open Go.RowKit
theorem eqSet00 (W : World) : Sem.run Try.prog (Op.equalIn 10000 35 (.agg #[.int .u32 0, .int .u32 0, .int .u32 0, .int .u32 0]) (.agg #[.int .u32 0, .int .u32 0, .int .u32 0, .int .u32 0])) W = .ok true W := by kernel_rfl
attribute [local go_sem] eqSet00
theorem Count0 (w : World) : Calls Try.prog 19 #[.agg #[.int .u32 0, .int .u32 0, .int .u32 0, .int .u32 0]] w fun e w' => e = .returned (.int .i64 0) ∧ Below w.heap.size w w' := by
  have h := Count_eq (a := 0#128) (n := 0) (by decide) w
  rw [zeroW] at h
  exact h
attribute [local irreducible] takesN takeN newErr newB mergeOk takeB
set_option maxRecDepth 100000 in
set_option maxHeartbeats 8000000 in
theorem Twice_yes (n self tag : Int) (l : List Nt) (lb : Option Addr) (lc : Nat) (w : World) (h : newErr n self tag = 0) (hl2 : l.length ≤ 300) (hL : LiesV (ntsV l) lb w) (hm : mergeOk (newB n self tag).length l = true) :
    Calls Try.prog 7 #[.int .i64 n, .int .i64 self, .int .i64 tag, .slice lb l.length lc] w fun e w' => e = .returned (.bool true) ∧ Below w.heap.size w w' := by
  have HE := Lib.hid h
  have HL := Lib.hid hL
  have hok := newB_ok h
  obtain ⟨L0, hL0⟩ : ∃ L0, newB n self tag = L0 := ⟨_, rfl⟩
  have HL0 := Lib.hid hL0
  rw [hL0] at hok hm
  have HM := Lib.hid hm
  have HLI : Hid (decide ((l.length : Int) ≤ 300) = true) := decide_eq_true (by omega)
  obtain ⟨L1, hL1⟩ : ∃ L1, takesN L0 l = L1 := ⟨_, rfl⟩
  have HL1 := Lib.hid hL1
  have hlen1 : L1.length = L0.length := by rw [← hL1, takesN_len]
  have hok1 : BookOk L1 := by rw [← hL1]; exact takesN_ok hok l
  have HM1 := Lib.hid (show mergeOk L1.length l = true by rw [hlen1]; exact hm)
  have HNO := Lib.hid (show ∀ x ∈ l, takeB L1 x = false by rw [← hL1]; exact taken hok l)
  have HOWN := Lib.hid (own_list hok1)
  have HVAL := Lib.hid (own_valid hok1)
  have hm1 : L1.length ≤ 5000 := by have := hok1.most; omega
  have HLEN1 := Lib.hid hlen1
  clear h hL hok hL0 hm hL1 hok1 hlen1
  go_enter Try.func7, Try.ntmps7
  go_wp2_with (first
    | (go_at_call 9; (with_reducible refine Calls.mono (New_L (Books.nil (w0 := w) (by (repeat' (first | (with_reducible exact Below.refl _ _) | (with_reducible assumption) | (show Below 0 _ _; with_reducible refine Below.mono (by assumption) (Nat.zero_le _)) | (with_reducible refine below_setRow ?_ ?_ _) | (with_reducible refine Below.alloc ?_ ?_ _) | (with_reducible refine Below.drew ?_) | (with_reducible refine Below.setCell ?_ ?_ _) | (with_reducible refine Below.frame ?_ _) | (with_reducible exact Nat.le_refl _) | omega | (simp only [World.size_alloc, World.size_setCell, World.size_drew, setRow_size]; omega) | (simp; omega) | (simp; done))))) HE.out HL0.out) ?_); rintro e w1 ⟨B1, g1, p1, rfl, hb⟩; simp only [List.nil_append] at hb; have H1 := Lib.hid hb; have hg1 : w.heap.size ≤ g1 := (hb.at_ 0 _ rfl).1.g_lt.1; have HNE := Lib.hid (arg_ne HL.out hg1); clear hb)
    | (go_at_call 10; refine (light_eq HLI.out _).mono ?_; rintro e w' ⟨rfl, rfl⟩)
    | (go_at_call 13; (with_reducible refine Calls.mono (Merge_yes 0 l lb lc H1.out rfl (LiesV.below HL.out (H1.out.below)) (by omega) HNE.out HM.out) ?_); rintro e w2 ⟨⟨u, rfl⟩, hb⟩; simp only [List.set_cons_zero] at hb; rw [HL1.out] at hb; have H2 := Lib.hid hb; clear hb H1)
    | (go_at_call 23; (with_reducible refine Calls.mono (Twin_L 0 H2.out rfl) ?_); rintro e w3 ⟨B2, g2, p2, rfl, hb⟩; simp only [List.cons_append, List.nil_append] at hb; have H3 := Lib.hid hb; clear hb H2)
    | (go_at_call 13; (with_reducible refine Calls.mono (Merge_no 0 l lb lc H3.out rfl (LiesV.below HL.out (H3.out.below)) (by omega) HNE.out HM1.out HNO.out) ?_); rintro e w4 ⟨rfl, hb, -⟩; have H4 := Lib.hid hb; have hsw4 : w.heap.size ≤ w4.heap.size := hb.below.size; clear hb H3))
  refine Calls.mono (List_L 0 (H4.out.call (by (repeat' (first | (with_reducible exact Below.refl _ _) | (with_reducible assumption) | (show Below 0 _ _; with_reducible refine Below.mono (by assumption) (Nat.zero_le _)) | (with_reducible refine below_setRow ?_ ?_ _) | (with_reducible refine Below.alloc ?_ ?_ _) | (with_reducible refine Below.drew ?_) | (with_reducible refine Below.setCell ?_ ?_ _) | (with_reducible refine Below.frame ?_ _) | (with_reducible exact Nat.le_refl _) | omega | (simp only [World.size_alloc, World.size_setCell, World.size_drew, setRow_size]; omega) | (simp; omega) | (simp; done))))) rfl) ?_
  rintro e w5 ⟨g5, p5, rfl, hl5, hn5, hb5⟩
  have H5 := Lib.hid ((H4.out.call (show Below w4.heap.size w4 _ from by (repeat' (first | (with_reducible exact Below.refl _ _) | (with_reducible assumption) | (show Below 0 _ _; with_reducible refine Below.mono (by assumption) (Nat.zero_le _)) | (with_reducible refine below_setRow ?_ ?_ _) | (with_reducible refine Below.alloc ?_ ?_ _) | (with_reducible refine Below.drew ?_) | (with_reducible refine Below.setCell ?_ ?_ _) | (with_reducible refine Below.frame ?_ _) | (with_reducible exact Nat.le_refl _) | omega | (simp only [World.size_alloc, World.size_setCell, World.size_drew, setRow_size]; omega) | (simp; omega) | (simp; done))))).call hb5)
  have hs_ : Ear.Blk w5 w4.heap.size 35 [.int .u32 0, .int .u32 0, .int .u32 0, .int .u32 0] := by (repeat' (first | (show Ear.Blk _ _ _ _; with_reducible assumption) | (with_reducible exact Ear.Blk.new _ _ _) | (with_reducible refine Ear.Blk.new' ?_; (simp only [World.size_alloc, World.size_setCell, World.size_drew, setRow_size]; done)) | (with_reducible apply Ear.Blk.alloc) | (with_reducible apply Ear.Blk.drew) | (with_reducible apply Ear.Blk.setC) | (with_reducible apply Ear.Blk.setC' (e := by omega)) | (with_reducible apply Ear.Blk.rowC (e := by first | rfl | omega)) | (with_reducible apply Ear.Blk.otherRow) | (with_reducible apply Ear.Blk.other) | (with_reducible apply Ear.Blk.below (hb := hb5)) | (show _ ≠ _; (try simp only [World.size_alloc, World.size_setCell, World.size_drew, setRow_size]); omega) | (show _ < _; (try simp only [World.size_alloc, World.size_setCell, World.size_drew, setRow_size]); omega)))
  have hg4 : g1 < w4.heap.size := (H4.out.at_ 0 _ rfl).1.g_lt.2
  clear H4 hb5
  go_wp2_with fail
  refine Calls.mono (Merge_no 0 L1 (some ⟨g5, 0, none⟩) p5 H5.out rfl hl5 hm1 (fun _ B o he => by simp only [Option.some.injEq, Addr.mk.injEq] at he; omega) HVAL.out HOWN.out) ?_
  rintro e w6 ⟨rfl, hb, hk⟩
  have H6 := Lib.hid hb
  have hs6 := Ear.Blk.keep hs_ hk (show ¬ w4.heap.size = g1 by omega)
  have hB := hb.below
  have hs := hB.size
  clear hs_ hk hb H5 hl5
  have hs_ := hs6
  have hs__l := hs_.lt
  clear hs6
  go_wp2
  refine Ear.wp_world (Ear.AndW (Ear.Sh w.heap.size w [(w4.heap.size, _, _), (w6.heap.size, _, _)]) (fun W => Hid (Books w W [⟨B1, g1, p1, L1⟩, ⟨B2, g2, p2, L1⟩]))) ⟨(.cons (by (repeat' (first | (show Ear.Blk _ _ _ _; with_reducible assumption) | (with_reducible exact Ear.Blk.new _ _ _) | (with_reducible refine Ear.Blk.new' ?_; (simp only [World.size_alloc, World.size_setCell, World.size_drew, setRow_size]; done)) | (with_reducible apply Ear.Blk.alloc) | (with_reducible apply Ear.Blk.drew) | (with_reducible apply Ear.Blk.setC) | (with_reducible apply Ear.Blk.setC' (e := by omega)) | (with_reducible apply Ear.Blk.rowC (e := by first | rfl | omega)) | (with_reducible apply Ear.Blk.otherRow) | (with_reducible apply Ear.Blk.other) | (show _ ≠ _; (try simp only [World.size_alloc, World.size_setCell, World.size_drew, setRow_size]); omega) | (show _ < _; (try simp only [World.size_alloc, World.size_setCell, World.size_drew, setRow_size]); omega)))) (.cons (by (repeat' (first | (show Ear.Blk _ _ _ _; with_reducible assumption) | (with_reducible exact Ear.Blk.new _ _ _) | (with_reducible refine Ear.Blk.new' ?_; (simp only [World.size_alloc, World.size_setCell, World.size_drew, setRow_size]; done)) | (with_reducible apply Ear.Blk.alloc) | (with_reducible apply Ear.Blk.drew) | (with_reducible apply Ear.Blk.setC) | (with_reducible apply Ear.Blk.setC' (e := by omega)) | (with_reducible apply Ear.Blk.rowC (e := by first | rfl | omega)) | (with_reducible apply Ear.Blk.otherRow) | (with_reducible apply Ear.Blk.other) | (show _ ≠ _; (try simp only [World.size_alloc, World.size_setCell, World.size_drew, setRow_size]); omega) | (show _ < _; (try simp only [World.size_alloc, World.size_setCell, World.size_drew, setRow_size]); omega)))) (.nil (by (repeat' (first | (with_reducible exact Below.refl _ _) | (with_reducible assumption) | (show Below 0 _ _; with_reducible refine Below.mono (by assumption) (Nat.zero_le _)) | (with_reducible refine below_setRow ?_ ?_ _) | (with_reducible refine Below.alloc ?_ ?_ _) | (with_reducible refine Below.drew ?_) | (with_reducible refine Below.setCell ?_ ?_ _) | (with_reducible refine Below.frame ?_ _) | (with_reducible exact Nat.le_refl _) | omega | (simp only [World.size_alloc, World.size_setCell, World.size_drew, setRow_size]; omega) | (simp; omega) | (simp; done))))))), H6.out.call (by (repeat' (first | (with_reducible exact Below.refl _ _) | (with_reducible assumption) | (show Below 0 _ _; with_reducible refine Below.mono (by assumption) (Nat.zero_le _)) | (with_reducible refine below_setRow ?_ ?_ _) | (with_reducible refine Below.alloc ?_ ?_ _) | (with_reducible refine Below.drew ?_) | (with_reducible refine Below.setCell ?_ ?_ _) | (with_reducible refine Below.frame ?_ _) | (with_reducible exact Nat.le_refl _) | omega | (simp only [World.size_alloc, World.size_setCell, World.size_drew, setRow_size]; omega) | (simp; omega) | (simp; done))))⟩ ?_; (try clear hs__l); (try clear hs__c); (try clear hs__f); (try clear hs_); (try clear ht_l); (try clear ht_c); (try clear ht_f); (try clear ht); (try clear H7); (try clear hB hs); rintro w7 ⟨⟨hs_, ht, hB⟩, H7⟩; replace hB : Below w.heap.size w w7 := hB; have hs := hB.size; (try simp only [List.set_cons_zero, List.set_cons_succ] at hs_); (try simp only [List.set_cons_zero, List.set_cons_succ] at ht); have hs__l := hs_.lt; have hs__c := hs_.cell; have hs__f := hs_.frozen; have ht_l := ht.lt; have ht_c := ht.cell; have ht_f := ht.frozen
  obtain ⟨T, hT⟩ : ∃ T, w6.heap.size = T := ⟨_, rfl⟩
  obtain ⟨S, hS⟩ : ∃ S, w4.heap.size = S := ⟨_, rfl⟩
  have hTg : g1 < T := by have := (H6.out.at_ 0 _ rfl).1.g_lt.2; simp only [hT] at this; exact this
  rw [hT] at ht ⊢
  rw [hS] at hs_ hg4 ⊢
  clear hs__l hs__c hs__f ht_l ht_c ht_f H6 hT hS
  go_loopw [16, 17, 18] (fun i _ _ wr => ∃ k : Nat, k ≤ l.length ∧ i = .int .i64 k ∧ Hid (Books w wr [⟨B1, g1, p1, L1⟩, ⟨B2, g2, p2, L1⟩]) ∧ Ear.Blk wr S 35 [.int .u32 0, .int .u32 0, .int .u32 0, .int .u32 0] ∧ Ear.Blk wr T 35 [.int .u32 0, .int .u32 0, .int .u32 0, .int .u32 0]) (fun i _ _ _ => l.length - (intOf i).toNat)
  case atStart => exact ⟨0, by omega, rfl, H7, hs_, ht⟩
  case round =>
    clear H7 hs_ ht
    obtain ⟨k, hk, rfl, H, hs_, ht⟩ := hrel
    by_cases hlt : k < l.length
    · obtain ⟨Bl, o, rfl, hBl, a0, a1, a2⟩ := nts_get k hlt HL.out H.out.below (Nat.le_refl _)
      have HW := Lib.hid (wrap_bk k l.length hlt (by omega))
      have hno := HNO.out _ (List.getElem_mem hlt)
      obtain ⟨x, hx⟩ : ∃ x, l[k] = x := ⟨_, rfl⟩
      rw [hx] at a0 a1 a2 hno
      have HD := Lib.hid hno
      clear hx hno
      go_wp2_with (go_at_call 12; (with_reducible refine Calls.mono (Take_did 0 H.out rfl HD.out) ?_); rintro e w8 ⟨⟨c, rfl⟩, hb, hk8⟩; rw [takeN_no HD.out] at hb; simp only [List.set_cons_zero] at hb; have H8 := Lib.hid hb; have hs8 := Ear.Blk.keep hs_ hk8 (show ¬ S = g1 by omega); have ht8 := Ear.Blk.keep ht hk8 (show ¬ T = g1 by omega); clear hb hk8)
      go_roundw
      case rel => exact ⟨k + 1, hlt, by go_num, H8, hs8, ht8⟩
      case measure => simp [intOf]; omega
    · have hs__c := hs_.cell
      have hs__l := hs_.lt
      have ht_c := ht.cell
      have ht_l := ht.lt
      have hB := H.out.below
      have hs := hB.size
      go_wp2_with (first
        | (go_at_call 11; (with_reducible refine Calls.mono (alive_calls _) ?_); rintro e w9 ⟨rfl, hb9⟩; have H9 := Lib.hid (H.out.call hb9); have hs9 := hs_.below hb9 hs__l; have ht9 := ht.below hb9 ht_l; have hs9_c := hs9.cell; have ht9_c := ht9.cell; have hs9_l := hs9.lt; have ht9_l := ht9.lt; clear hb9 hs__c ht_c)
        | (go_at_call 19; (with_reducible refine Calls.mono (Count0 _) ?_); rintro e w11 ⟨rfl, hb11⟩; have H11 := Lib.hid (H10.out.call hb11); clear hb11 ht10_c H10)
        | (go_at_call 19; (with_reducible refine Calls.mono (Count0 _) ?_); rintro e w10 ⟨rfl, hb10⟩; have H10 := Lib.hid (H9.out.call hb10); have ht10 := ht9.below hb10 ht9_l; have ht10_c := ht10.cell; have ht10_l := ht10.lt; clear hb10 ht9_c hs9_c H9)
        | (go_at_call 14; (with_reducible refine Calls.mono (Same_at 0 1 H11.out rfl rfl rfl) ?_); rintro e w12 ⟨rfl, hb12⟩; have H12 := Lib.hid (H11.out.call hb12)))
      go_ret
      exact ⟨rfl, H12.out.below⟩
theorem Merge_badL {w0 w : World} {bs : List Bk} (i : Nat) {B g cap : Nat} {L : List Nt} (l : List Nt) (base : Option Addr) (c : Nat) (h : Books w0 w bs) (hi : bs[i]? = some ⟨B, g, cap, L⟩) (hl : LiesV (ntsV l) base w) (hn : l.length ≤ 5000) (hm : mergeOk L.length l = false) :
    Calls Try.prog 13 #[.pointer (some ⟨B, 0, none⟩), .slice base l.length c] w fun e w' => e = .returned (.tuple #[.agg #[.int .u32 0, .int .u32 0, .int .u32 0, .int .u32 0], .int .i64 50]) ∧ Books w0 w' bs := by
  have := Merge_bad (b := ⟨B, g, cap, L⟩) l base c h hi hl hn hm
  refine this.mono ?_
  rintro e w' ⟨he, hb⟩
  exact ⟨he, h.call hb⟩
set_option maxRecDepth 100000 in
set_option maxHeartbeats 8000000 in
theorem Twice_odd (n self tag : Int) (l : List Nt) (lb : Option Addr) (lc : Nat) (w : World) (h : newErr n self tag = 0) (hl2 : l.length ≤ 300) (hL : LiesV (ntsV l) lb w) (hm : mergeOk (newB n self tag).length l = false) :
    Calls Try.prog 7 #[.int .i64 n, .int .i64 self, .int .i64 tag, .slice lb l.length lc] w fun e w' => e = .returned (.bool true) ∧ Below w.heap.size w w' := by
  have HE := Lib.hid h
  have HL := Lib.hid hL
  have hok := newB_ok h
  obtain ⟨L0, hL0⟩ : ∃ L0, newB n self tag = L0 := ⟨_, rfl⟩
  have HL0 := Lib.hid hL0
  rw [hL0] at hok hm
  have HM := Lib.hid hm
  have HLI : Hid (decide ((l.length : Int) ≤ 300) = true) := decide_eq_true (by omega)
  have HOWN := Lib.hid (own_list hok)
  have HVAL := Lib.hid (own_valid hok)
  have hm1 : L0.length ≤ 5000 := by have := hok.most; omega
  clear h hL hok hL0 hm
  go_enter Try.func7, Try.ntmps7
  go_wp2_with (first
    | (go_at_call 9; (with_reducible refine Calls.mono (New_L (Books.nil (w0 := w) (by (repeat' (first | (with_reducible exact Below.refl _ _) | (with_reducible assumption) | (show Below 0 _ _; with_reducible refine Below.mono (by assumption) (Nat.zero_le _)) | (with_reducible refine below_setRow ?_ ?_ _) | (with_reducible refine Below.alloc ?_ ?_ _) | (with_reducible refine Below.drew ?_) | (with_reducible refine Below.setCell ?_ ?_ _) | (with_reducible refine Below.frame ?_ _) | (with_reducible exact Nat.le_refl _) | omega | (simp only [World.size_alloc, World.size_setCell, World.size_drew, setRow_size]; omega) | (simp; omega) | (simp; done))))) HE.out HL0.out) ?_); rintro e w1 ⟨B1, g1, p1, rfl, hb⟩; simp only [List.nil_append] at hb; have H1 := Lib.hid hb; have hg1 : w.heap.size ≤ g1 := (hb.at_ 0 _ rfl).1.g_lt.1; have HNE := Lib.hid (arg_ne HL.out hg1); clear hb)
    | (go_at_call 10; refine (light_eq HLI.out _).mono ?_; rintro e w' ⟨rfl, rfl⟩)
    | (go_at_call 13; (with_reducible refine Calls.mono (Merge_badL 0 l lb lc H1.out rfl (LiesV.below HL.out (H1.out.below)) (by omega) HM.out) ?_); rintro e w2 ⟨rfl, hb⟩; have H2 := Lib.hid hb; clear hb H1)
    | (go_at_call 23; (with_reducible refine Calls.mono (Twin_L 0 H2.out rfl) ?_); rintro e w3 ⟨B2, g2, p2, rfl, hb⟩; simp only [List.cons_append, List.nil_append] at hb; have H3 := Lib.hid hb; clear hb H2)
    | (go_at_call 13; (with_reducible refine Calls.mono (Merge_badL 0 l lb lc H3.out rfl (LiesV.below HL.out (H3.out.below)) (by omega) HM.out) ?_); rintro e w4 ⟨rfl, hb⟩; have H4 := Lib.hid hb; have hsw4 : w.heap.size ≤ w4.heap.size := hb.below.size; clear hb H3))
  refine Calls.mono (List_L 0 (H4.out.call (by (repeat' (first | (with_reducible exact Below.refl _ _) | (with_reducible assumption) | (show Below 0 _ _; with_reducible refine Below.mono (by assumption) (Nat.zero_le _)) | (with_reducible refine below_setRow ?_ ?_ _) | (with_reducible refine Below.alloc ?_ ?_ _) | (with_reducible refine Below.drew ?_) | (with_reducible refine Below.setCell ?_ ?_ _) | (with_reducible refine Below.frame ?_ _) | (with_reducible exact Nat.le_refl _) | omega | (simp only [World.size_alloc, World.size_setCell, World.size_drew, setRow_size]; omega) | (simp; omega) | (simp; done))))) rfl) ?_
  rintro e w5 ⟨g5, p5, rfl, hl5, hn5, hb5⟩
  have H5 := Lib.hid ((H4.out.call (show Below w4.heap.size w4 _ from by (repeat' (first | (with_reducible exact Below.refl _ _) | (with_reducible assumption) | (show Below 0 _ _; with_reducible refine Below.mono (by assumption) (Nat.zero_le _)) | (with_reducible refine below_setRow ?_ ?_ _) | (with_reducible refine Below.alloc ?_ ?_ _) | (with_reducible refine Below.drew ?_) | (with_reducible refine Below.setCell ?_ ?_ _) | (with_reducible refine Below.frame ?_ _) | (with_reducible exact Nat.le_refl _) | omega | (simp only [World.size_alloc, World.size_setCell, World.size_drew, setRow_size]; omega) | (simp; omega) | (simp; done))))).call hb5)
  have hs_ : Ear.Blk w5 w4.heap.size 35 [.int .u32 0, .int .u32 0, .int .u32 0, .int .u32 0] := by (repeat' (first | (show Ear.Blk _ _ _ _; with_reducible assumption) | (with_reducible exact Ear.Blk.new _ _ _) | (with_reducible refine Ear.Blk.new' ?_; (simp only [World.size_alloc, World.size_setCell, World.size_drew, setRow_size]; done)) | (with_reducible apply Ear.Blk.alloc) | (with_reducible apply Ear.Blk.drew) | (with_reducible apply Ear.Blk.setC) | (with_reducible apply Ear.Blk.setC' (e := by omega)) | (with_reducible apply Ear.Blk.rowC (e := by first | rfl | omega)) | (with_reducible apply Ear.Blk.otherRow) | (with_reducible apply Ear.Blk.other) | (with_reducible apply Ear.Blk.below (hb := hb5)) | (show _ ≠ _; (try simp only [World.size_alloc, World.size_setCell, World.size_drew, setRow_size]); omega) | (show _ < _; (try simp only [World.size_alloc, World.size_setCell, World.size_drew, setRow_size]); omega)))
  have hg4 : g1 < w4.heap.size := (H4.out.at_ 0 _ rfl).1.g_lt.2
  clear H4 hb5
  go_wp2_with fail
  refine Calls.mono (Merge_no 0 L0 (some ⟨g5, 0, none⟩) p5 H5.out rfl hl5 hm1 (fun _ B o he => by simp only [Option.some.injEq, Addr.mk.injEq] at he; omega) HVAL.out HOWN.out) ?_
  rintro e w6 ⟨rfl, hb, hk⟩
  have H6 := Lib.hid hb
  have hs6 := Ear.Blk.keep hs_ hk (show ¬ w4.heap.size = g1 by omega)
  have hB := hb.below
  have hs := hB.size
  clear hs_ hk hb H5 hl5
  have hs_ := hs6
  have hs__l := hs_.lt
  clear hs6
  go_wp2
  refine Ear.wp_world (Ear.AndW (Ear.Sh w.heap.size w [(w4.heap.size, _, _), (w6.heap.size, _, _)]) (fun W => Hid (Books w W [⟨B1, g1, p1, L0⟩, ⟨B2, g2, p2, L0⟩]))) ⟨(.cons (by (repeat' (first | (show Ear.Blk _ _ _ _; with_reducible assumption) | (with_reducible exact Ear.Blk.new _ _ _) | (with_reducible refine Ear.Blk.new' ?_; (simp only [World.size_alloc, World.size_setCell, World.size_drew, setRow_size]; done)) | (with_reducible apply Ear.Blk.alloc) | (with_reducible apply Ear.Blk.drew) | (with_reducible apply Ear.Blk.setC) | (with_reducible apply Ear.Blk.setC' (e := by omega)) | (with_reducible apply Ear.Blk.rowC (e := by first | rfl | omega)) | (with_reducible apply Ear.Blk.otherRow) | (with_reducible apply Ear.Blk.other) | (show _ ≠ _; (try simp only [World.size_alloc, World.size_setCell, World.size_drew, setRow_size]); omega) | (show _ < _; (try simp only [World.size_alloc, World.size_setCell, World.size_drew, setRow_size]); omega)))) (.cons (by (repeat' (first | (show Ear.Blk _ _ _ _; with_reducible assumption) | (with_reducible exact Ear.Blk.new _ _ _) | (with_reducible refine Ear.Blk.new' ?_; (simp only [World.size_alloc, World.size_setCell, World.size_drew, setRow_size]; done)) | (with_reducible apply Ear.Blk.alloc) | (with_reducible apply Ear.Blk.drew) | (with_reducible apply Ear.Blk.setC) | (with_reducible apply Ear.Blk.setC' (e := by omega)) | (with_reducible apply Ear.Blk.rowC (e := by first | rfl | omega)) | (with_reducible apply Ear.Blk.otherRow) | (with_reducible apply Ear.Blk.other) | (show _ ≠ _; (try simp only [World.size_alloc, World.size_setCell, World.size_drew, setRow_size]); omega) | (show _ < _; (try simp only [World.size_alloc, World.size_setCell, World.size_drew, setRow_size]); omega)))) (.nil (by (repeat' (first | (with_reducible exact Below.refl _ _) | (with_reducible assumption) | (show Below 0 _ _; with_reducible refine Below.mono (by assumption) (Nat.zero_le _)) | (with_reducible refine below_setRow ?_ ?_ _) | (with_reducible refine Below.alloc ?_ ?_ _) | (with_reducible refine Below.drew ?_) | (with_reducible refine Below.setCell ?_ ?_ _) | (with_reducible refine Below.frame ?_ _) | (with_reducible exact Nat.le_refl _) | omega | (simp only [World.size_alloc, World.size_setCell, World.size_drew, setRow_size]; omega) | (simp; omega) | (simp; done))))))), H6.out.call (by (repeat' (first | (with_reducible exact Below.refl _ _) | (with_reducible assumption) | (show Below 0 _ _; with_reducible refine Below.mono (by assumption) (Nat.zero_le _)) | (with_reducible refine below_setRow ?_ ?_ _) | (with_reducible refine Below.alloc ?_ ?_ _) | (with_reducible refine Below.drew ?_) | (with_reducible refine Below.setCell ?_ ?_ _) | (with_reducible refine Below.frame ?_ _) | (with_reducible exact Nat.le_refl _) | omega | (simp only [World.size_alloc, World.size_setCell, World.size_drew, setRow_size]; omega) | (simp; omega) | (simp; done))))⟩ ?_; (try clear hs__l); (try clear hs__c); (try clear hs__f); (try clear hs_); (try clear ht_l); (try clear ht_c); (try clear ht_f); (try clear ht); (try clear H7); (try clear hB hs); rintro w7 ⟨⟨hs_, ht, hB⟩, H7⟩; replace hB : Below w.heap.size w w7 := hB; have hs := hB.size; (try simp only [List.set_cons_zero, List.set_cons_succ] at hs_); (try simp only [List.set_cons_zero, List.set_cons_succ] at ht); have hs__l := hs_.lt; have hs__c := hs_.cell; have hs__f := hs_.frozen; have ht_l := ht.lt; have ht_c := ht.cell; have ht_f := ht.frozen
  obtain ⟨T, hT⟩ : ∃ T, w6.heap.size = T := ⟨_, rfl⟩
  obtain ⟨S, hS⟩ : ∃ S, w4.heap.size = S := ⟨_, rfl⟩
  rw [hS] at hs_ hg4 ⊢
  clear hs__l hs__c hs__f ht ht_l ht_c ht_f H6 hT hS
  go_loopw [16, 17, 18] (fun i _ _ wr => ∃ k : Nat, k ≤ l.length ∧ i = .int .i64 k ∧ Hid (Books w wr [⟨B1, g1, p1, takesN L0 (l.take k)⟩, ⟨B2, g2, p2, L0⟩]) ∧ Ear.Blk wr S 35 [.int .u32 0, .int .u32 0, .int .u32 0, .int .u32 0]) (fun i _ _ _ => l.length - (intOf i).toNat)
  case atStart => exact ⟨0, by omega, rfl, (by rw [show takesN L0 (l.take 0) = L0 from by rw [List.take_zero]; unfold takesN; rfl]; exact H7), hs_⟩
  case round =>
    clear H7 hs_
    obtain ⟨k, hk, rfl, H, hs_⟩ := hrel
    by_cases hlt : k < l.length
    · obtain ⟨Bl, o, rfl, hBl, a0, a1, a2⟩ := nts_get k hlt HL.out H.out.below (Nat.le_refl _)
      have HW := Lib.hid (wrap_bk k l.length hlt (by omega))
      have HSUC := Lib.hid (takesN_succ L0 l k hlt)
      obtain ⟨x, hx⟩ : ∃ x, l[k] = x := ⟨_, rfl⟩
      rw [hx] at a0 a1 a2 HSUC
      obtain ⟨d, hd⟩ : ∃ d, takeB (takesN L0 (l.take k)) x = d := ⟨_, rfl⟩
      have HD := Lib.hid hd
      clear hx hd
      cases d
      all_goals
        go_wp2_with (go_at_call 12; (with_reducible refine Calls.mono (Take_did 0 H.out rfl HD.out) ?_); rintro e w8 ⟨⟨c, rfl⟩, hb, hk8⟩; rw [← HSUC.out] at hb; simp only [List.set_cons_zero] at hb; have H8 := Lib.hid hb; have hs8 := Ear.Blk.keep hs_ hk8 (show ¬ S = g1 by omega); clear hb hk8)
        go_roundw
        case rel => exact ⟨k + 1, hlt, by go_num, H8, hs8⟩
        case measure => simp [intOf]; omega
    · have hs__c := hs_.cell
      have hs__l := hs_.lt
      have hB := H.out.below
      have hs := hB.size
      go_wp2_with (go_at_call 11; (with_reducible refine Calls.mono (alive_calls _) ?_); rintro e w9 ⟨rfl, hb9⟩; have H9 := Lib.hid (H.out.call hb9); have hs9 := hs_.below hb9 hs__l; have hs9_c := hs9.cell; have hs9_l := hs9.lt; clear hb9 hs__c)
      go_ret
      exact ⟨rfl, H9.out.below⟩
theorem BookTwice_calls (n self tag : Int) (l : List Nt) (lb : Option Addr) (lc : Nat) (w : World) (hL : LiesV (ntsV l) lb w) :
    Calls Try.prog 7 #[.int .i64 n, .int .i64 self, .int .i64 tag, .slice lb l.length lc] w fun e w' => e = .returned (.bool true) ∧ Below w.heap.size w w' := by
  by_cases h : newErr n self tag = 0
  · by_cases hl : l.length ≤ 300
    · cases hm : mergeOk (newB n self tag).length l with
      | true => exact Twice_yes n self tag l lb lc w h hl hL hm
      | false => exact Twice_odd n self tag l lb lc w h hl hL hm
    · exact Twice_long n self tag l.length lb lc w h (by omega)
  · exact Twice_bad n self tag l.length lb lc w h
end Go.Proofs.Ytfkgllbooopfdaa
