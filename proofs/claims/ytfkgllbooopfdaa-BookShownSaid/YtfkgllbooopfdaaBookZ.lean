/-
  What the law BookShown comes to.
-/
import Derived.Test.YtfkgllbooopfdaaBookY
namespace Go.Proofs.Ytfkgllbooopfdaa
set_option linter.unusedSimpArgs false
set_option linter.unusedVariables false
open Go.RowKit
attribute [local irreducible] Ear.Pl.wpQ Ear.Pa.wpQ Ear.Fe.wpQ Ear.Fa.wpQ takesN takeN newErr newB mergeOk takeB mergeN mergeS mergeE suspOf newsOf freshB riseFrom validN hasV withV
set_option maxRecDepth 100000 in
set_option maxHeartbeats 2000000 in
theorem Shown_bad (n self tag : Int) (N : Nat) (lb : Option Addr) (lc : Nat) (w : World) (h : newErr n self tag ≠ 0) :
    Calls Try.prog 8 #[.int .i64 n, .int .i64 self, .int .i64 tag, .slice lb N lc] w fun e w' => e = .returned (.bool true) ∧ Below w.heap.size w w' := by
  obtain ⟨c, hc⟩ : ∃ c, newErr n self tag = c := ⟨_, rfl⟩
  have HE := Lib.hid hc
  rw [hc] at h
  have HC := Lib.hid h
  have e3 : (c != 0) = true := by rw [bne_iff_ne]; exact h
  clear hc h
  go_enter Try.func8, Try.ntmps8
  go_wp2_with (first | (go_at_call 9; (with_reducible refine Calls.mono (New_badB _ HE.out HC.out) ?_); rintro e w1 ⟨rfl, hb1⟩; have hB' : Below w.heap.size w w1 := Below.trans (by (repeat' (first | (with_reducible exact Below.refl _ _) | (with_reducible assumption) | (show Below 0 _ _; with_reducible refine Below.mono (by assumption) (Nat.zero_le _)) | (with_reducible refine below_setRow ?_ ?_ _) | (with_reducible refine Below.alloc ?_ ?_ _) | (with_reducible refine Below.drew ?_) | (with_reducible refine Below.setCell ?_ ?_ _) | (with_reducible refine Below.frame ?_ _) | (with_reducible exact Nat.le_refl _) | omega | (simp only [World.size_alloc, World.size_setCell, World.size_drew, setRow_size]; omega) | (simp; omega) | (simp; done)))) (hb1.mono (by (try simp only [World.size_alloc, World.size_setCell, World.size_drew, setRow_size]); omega)); clear hb1; (try clear hB hs); have hB := hB'; clear hB'; have hs := hB.size) | (go_at_call 11; (with_reducible refine Calls.mono (alive_calls _) ?_); rintro e w3 ⟨rfl, hb3⟩; have hB' : Below w.heap.size w w3 := Below.trans (by (repeat' (first | (with_reducible exact Below.refl _ _) | (with_reducible assumption) | (show Below 0 _ _; with_reducible refine Below.mono (by assumption) (Nat.zero_le _)) | (with_reducible refine below_setRow ?_ ?_ _) | (with_reducible refine Below.alloc ?_ ?_ _) | (with_reducible refine Below.drew ?_) | (with_reducible refine Below.setCell ?_ ?_ _) | (with_reducible refine Below.frame ?_ _) | (with_reducible exact Nat.le_refl _) | omega | (simp only [World.size_alloc, World.size_setCell, World.size_drew, setRow_size]; omega) | (simp; omega) | (simp; done)))) (hb3.mono (by (try simp only [World.size_alloc, World.size_setCell, World.size_drew, setRow_size]); omega)); clear hb3; (try clear hB hs); have hB := hB'; clear hB'; have hs := hB.size))
  go_ret
  exact ⟨rfl, hB⟩
set_option maxRecDepth 100000 in
set_option maxHeartbeats 2000000 in
theorem Shown_long (n self tag : Int) (N : Nat) (lb : Option Addr) (lc : Nat) (w : World) (h : newErr n self tag = 0) (hl : 300 < N) :
    Calls Try.prog 8 #[.int .i64 n, .int .i64 self, .int .i64 tag, .slice lb N lc] w fun e w' => e = .returned (.bool true) ∧ Below w.heap.size w w' := by
  have HE := Lib.hid h
  have HLI : Hid (decide ((N : Int) ≤ 300) = false) := decide_eq_false (by omega)
  clear h hl
  go_enter Try.func8, Try.ntmps8
  go_wp2_with (first | (go_at_call 9; (with_reducible refine Calls.mono (New_any HE.out _) ?_); rintro e w1 ⟨B1, rfl, hb1⟩; have hB' : Below w.heap.size w w1 := Below.trans (by (repeat' (first | (with_reducible exact Below.refl _ _) | (with_reducible assumption) | (show Below 0 _ _; with_reducible refine Below.mono (by assumption) (Nat.zero_le _)) | (with_reducible refine below_setRow ?_ ?_ _) | (with_reducible refine Below.alloc ?_ ?_ _) | (with_reducible refine Below.drew ?_) | (with_reducible refine Below.setCell ?_ ?_ _) | (with_reducible refine Below.frame ?_ _) | (with_reducible exact Nat.le_refl _) | omega | (simp only [World.size_alloc, World.size_setCell, World.size_drew, setRow_size]; omega) | (simp; omega) | (simp; done)))) (hb1.mono (by (try simp only [World.size_alloc, World.size_setCell, World.size_drew, setRow_size]); omega)); clear hb1; (try clear hB hs); have hB := hB'; clear hB'; have hs := hB.size) | (go_at_call 10; refine (light_eq HLI.out _).mono ?_; rintro e w' ⟨rfl, rfl⟩) | (go_at_call 11; (with_reducible refine Calls.mono (alive_calls _) ?_); rintro e w3 ⟨rfl, hb3⟩; have hB' : Below w.heap.size w w3 := Below.trans (by (repeat' (first | (with_reducible exact Below.refl _ _) | (with_reducible assumption) | (show Below 0 _ _; with_reducible refine Below.mono (by assumption) (Nat.zero_le _)) | (with_reducible refine below_setRow ?_ ?_ _) | (with_reducible refine Below.alloc ?_ ?_ _) | (with_reducible refine Below.drew ?_) | (with_reducible refine Below.setCell ?_ ?_ _) | (with_reducible refine Below.frame ?_ _) | (with_reducible exact Nat.le_refl _) | omega | (simp only [World.size_alloc, World.size_setCell, World.size_drew, setRow_size]; omega) | (simp; omega) | (simp; done)))) (hb3.mono (by (try simp only [World.size_alloc, World.size_setCell, World.size_drew, setRow_size]); omega)); clear hb3; (try clear hB hs); have hB := hB'; clear hB'; have hs := hB.size))
  go_ret
  exact ⟨rfl, hB⟩
set_option maxRecDepth 100000 in
set_option maxHeartbeats 8000000 in
theorem Shown_good (n self tag : Int) (l : List Nt) (lb : Option Addr) (lc : Nat) (w : World) (h : newErr n self tag = 0) (hl2 : l.length ≤ 300) (hL : LiesV (ntsV l) lb w) :
    Calls Try.prog 8 #[.int .i64 n, .int .i64 self, .int .i64 tag, .slice lb l.length lc] w fun e w' => e = .returned (.bool true) ∧ Below w.heap.size w w' := by
  have HE := Lib.hid h
  have HL := Lib.hid hL
  have hok0 := newB_ok h
  have hn0 := newB_len h
  obtain ⟨L0, hL0⟩ : ∃ L0, newB n self tag = L0 := ⟨_, rfl⟩
  have HL0 := Lib.hid hL0
  rw [hL0] at hok0 hn0
  have HLI : Hid (decide ((l.length : Int) ≤ 300) = true) := decide_eq_true (by omega)
  have hlen := mergeN_len L0 l
  have hok := mergeN_ok hok0 l
  obtain ⟨L, hLL⟩ : ∃ L, mergeN L0 l = L := ⟨_, rfl⟩
  have HLL := Lib.hid hLL
  rw [hLL] at hlen hok
  obtain rfl : n = (L.length : Int) := by omega
  have hm100 : L.length ≤ 100 := hok.most
  have HOK := Lib.hid hok
  obtain ⟨i0, hi, hz0, hz1, hz2⟩ := info_parts info_nt
  have HI := Lib.hid hi
  have HZ0 := Lib.hid hz0
  have HZ1 := Lib.hid hz1
  have HZ2 := Lib.hid hz2
  clear h hL hok0 hn0 hL0 hlen hok hLL hi hz0 hz1 hz2
  go_enter Try.func8, Try.ntmps8
  go_wp2_with (first
    | (go_at_call 9; (with_reducible refine Calls.mono (New_L (Books.nil (w0 := w) (by (repeat' (first | (with_reducible exact Below.refl _ _) | (with_reducible assumption) | (show Below 0 _ _; with_reducible refine Below.mono (by assumption) (Nat.zero_le _)) | (with_reducible refine below_setRow ?_ ?_ _) | (with_reducible refine Below.alloc ?_ ?_ _) | (with_reducible refine Below.drew ?_) | (with_reducible refine Below.setCell ?_ ?_ _) | (with_reducible refine Below.frame ?_ _) | (with_reducible exact Nat.le_refl _) | omega | (simp only [World.size_alloc, World.size_setCell, World.size_drew, setRow_size]; omega) | (simp; omega) | (simp; done))))) HE.out HL0.out) ?_); rintro e w1 ⟨B1, g1, p1, rfl, hb⟩; simp only [List.nil_append] at hb; have H1 := Lib.hid hb; have hg1 : w.heap.size ≤ g1 := (hb.at_ 0 _ rfl).1.g_lt.1; have HNE := Lib.hid (arg_ne HL.out hg1); clear hb)
    | (go_at_call 10; refine (light_eq HLI.out _).mono ?_; rintro e w' ⟨rfl, rfl⟩)
    | (go_at_call 13; (with_reducible refine Calls.mono (Merge_all 0 l lb lc H1.out rfl (LiesV.below HL.out H1.out.below) (by omega) HNE.out) ?_); rintro e w2 ⟨rfl, hb, hk⟩; rw [HLL.out] at hb; simp only [List.set_cons_zero] at hb; have H2 := Lib.hid hb; clear hb hk H1)
    | (go_at_call 18; (with_reducible refine Calls.mono (List_N 0 H2.out rfl) ?_); rintro e w5 ⟨g5, p5, rfl, hx5, hg5, hb⟩; have H5 := Lib.hid (H2.out.call hb); clear hb H2)
    | (go_at_call 24; (with_reducible refine Calls.mono (News_calls 0 H5.out rfl) ?_); rintro e w6 ⟨⟨b6, p6, rfl, hown6⟩, hb⟩; have H6 := Lib.hid (H5.out.call hb); have hx6 := Lib.hid (LiesV.below hx5.out hb); have hy6 := Lib.hid (owns_liesV hown6); clear hb H5 hx5 hown6)
    | (go_at_call 25; (with_reducible refine Calls.mono (Suspects_calls 0 H6.out rfl) ?_); rintro e w7 ⟨rfl, hb⟩; have H7 := Lib.hid (H6.out.call hb); have hx7 := Lib.hid (LiesV.below hx6.out hb); have hy7 := Lib.hid (LiesV.below hy6.out hb); have hB7 := H7.out.below; have hs7 := hB7.size; clear hb H6 hx6 hy6))
  obtain ⟨S, hS⟩ : ∃ S, suspOf L = S := ⟨_, rfl⟩
  have HS := Lib.hid hS
  rw [hS]
  clear hS
  refine Ear.wp_world (Ear.AndW (Ear.AndW (Ear.AndW (Ear.Sh w.heap.size w [(w7.heap.size, _, _)]) (fun W => Hid (Books w W [⟨B1, g1, p1, L⟩]))) (fun W => Hid (LiesV (ntsV L) (some ⟨g5, 0, none⟩) W))) (fun W => Hid (LiesV (ntsV (newsOf L)) b6 W))) ⟨⟨⟨(.cons (by (repeat' (first | (show Ear.Blk _ _ _ _; with_reducible assumption) | (with_reducible exact Ear.Blk.new _ _ _) | (with_reducible refine Ear.Blk.new' ?_; (simp only [World.size_alloc, World.size_setCell, World.size_drew, setRow_size]; done)) | (with_reducible apply Ear.Blk.alloc) | (with_reducible apply Ear.Blk.drew) | (with_reducible apply Ear.Blk.setC) | (with_reducible apply Ear.Blk.setC' (e := by omega)) | (with_reducible apply Ear.Blk.rowC (e := by first | rfl | omega)) | (with_reducible apply Ear.Blk.otherRow) | (with_reducible apply Ear.Blk.other) | (show _ ≠ _; (try simp only [World.size_alloc, World.size_setCell, World.size_drew, setRow_size]); omega) | (show _ < _; (try simp only [World.size_alloc, World.size_setCell, World.size_drew, setRow_size]); omega)))) (.nil (by (repeat' (first | (with_reducible exact Below.refl _ _) | (with_reducible assumption) | (show Below 0 _ _; with_reducible refine Below.mono (by assumption) (Nat.zero_le _)) | (with_reducible refine below_setRow ?_ ?_ _) | (with_reducible refine Below.alloc ?_ ?_ _) | (with_reducible refine Below.drew ?_) | (with_reducible refine Below.setCell ?_ ?_ _) | (with_reducible refine Below.frame ?_ _) | (with_reducible exact Nat.le_refl _) | omega | (simp only [World.size_alloc, World.size_setCell, World.size_drew, setRow_size]; omega) | (simp; omega) | (simp; done)))))), H7.out.call (by (repeat' (first | (with_reducible exact Below.refl _ _) | (with_reducible assumption) | (show Below 0 _ _; with_reducible refine Below.mono (by assumption) (Nat.zero_le _)) | (with_reducible refine below_setRow ?_ ?_ _) | (with_reducible refine Below.alloc ?_ ?_ _) | (with_reducible refine Below.drew ?_) | (with_reducible refine Below.setCell ?_ ?_ _) | (with_reducible refine Below.frame ?_ _) | (with_reducible exact Nat.le_refl _) | omega | (simp only [World.size_alloc, World.size_setCell, World.size_drew, setRow_size]; omega) | (simp; omega) | (simp; done))))⟩, LiesV.below hx7.out (by (repeat' (first | (with_reducible exact Below.refl _ _) | (with_reducible assumption) | (show Below 0 _ _; with_reducible refine Below.mono (by assumption) (Nat.zero_le _)) | (with_reducible refine below_setRow ?_ ?_ _) | (with_reducible refine Below.alloc ?_ ?_ _) | (with_reducible refine Below.drew ?_) | (with_reducible refine Below.setCell ?_ ?_ _) | (with_reducible refine Below.frame ?_ _) | (with_reducible exact Nat.le_refl _) | omega | (simp only [World.size_alloc, World.size_setCell, World.size_drew, setRow_size]; omega) | (simp; omega) | (simp; done))))⟩, LiesV.below hy7.out (by (repeat' (first | (with_reducible exact Below.refl _ _) | (with_reducible assumption) | (show Below 0 _ _; with_reducible refine Below.mono (by assumption) (Nat.zero_le _)) | (with_reducible refine below_setRow ?_ ?_ _) | (with_reducible refine Below.alloc ?_ ?_ _) | (with_reducible refine Below.drew ?_) | (with_reducible refine Below.setCell ?_ ?_ _) | (with_reducible refine Below.frame ?_ _) | (with_reducible exact Nat.le_refl _) | omega | (simp only [World.size_alloc, World.size_setCell, World.size_drew, setRow_size]; omega) | (simp; omega) | (simp; done))))⟩ ?_; (try clear hs__l); (try clear hs__c); (try clear hs__f); (try clear hs_); (try clear H8); (try clear hx8); (try clear hy8); (try clear hB hs); rintro w8 ⟨⟨⟨⟨hs_, hB⟩, H8⟩, hx8⟩, hy8⟩; replace hB : Below w.heap.size w w8 := hB; have hs := hB.size; (try simp only [List.set_cons_zero, List.set_cons_succ] at hs_); have hs__l := hs_.lt; have hs__c := hs_.cell; have hs__f := hs_.frozen
  obtain ⟨Sb, hSb⟩ : ∃ Sb, w7.heap.size = Sb := ⟨_, rfl⟩
  rw [hSb] at hs_ hs__l hs__c hs__f ⊢
  clear hs__c hs__f H7 hx7 hy7 hSb hs7 hB7
  go_loopw [14, 15] (fun v i wr => ∃ (k : Nat) (base : Option Addr) (cap : Nat), k ≤ L.length ∧ i = .int .i64 k ∧ v = .slice base (newsOf (L.take k)).length cap ∧ Hid (wr.ownsRow w8.heap.size 32 3 (.slice base (newsOf (L.take k)).length cap) (newsOf (L.take k)).length (ntsV (newsOf (L.take k)))) ∧ Below w8.heap.size w8 wr) (fun _ i _ => L.length - (intOf i).toNat)
  case atStart => exact ⟨0, none, 0, by omega, rfl, by rw [List.take_zero, newsOf_nil]; rfl, by rw [List.take_zero, newsOf_nil]; exact World.ownsRow_nil _ _ _ _, Below.refl _ _⟩
  case round =>
    obtain ⟨k, base, cap, hk, rfl, rfl, HO, hBr⟩ := hrel
    have hsr := hBr.size
    by_cases hlt : k < L.length
    · obtain ⟨x, hx⟩ : ∃ x, L[k] = x := ⟨_, rfl⟩
      have ho := (HOK.out.each k hlt).1
      have hsu := susp_has HOK.out k hlt
      rw [hx] at ho hsu
      rw [HS.out] at hsu
      obtain ⟨of_, tag', kind⟩ := x
      dsimp only at ho hsu
      subst ho
      obtain ⟨kb, hkb⟩ : ∃ kb, (kind == 2) = kb := ⟨_, rfl⟩
      rw [hkb] at hsu
      have HSU := Lib.hid hsu
      have HX := Lib.hid (show ([⟨B1, g1, p1, L⟩] : List Bk)[0]? = some ⟨B1, g1, p1, L⟩ from rfl)
      have HXG := Lib.hid (show L[k]? = some (⟨(k : Int), tag', kind⟩ : Nt) by rw [List.getElem?_eq_getElem hlt, hx])
      have HSN := Lib.hid (show newsOf (L.take (k + 1)) = newsOf (L.take k) ++ (if freshB ⟨(k : Int), tag', kind⟩ = true then [] else [⟨(k : Int), tag', kind⟩]) from by rw [List.take_succ_eq_append_getElem hlt, newsOf_snoc, hx])
      obtain ⟨b1, hb1⟩ : ∃ b, (tag' == 0) = b := ⟨_, rfl⟩
      obtain ⟨b2, hb2⟩ : ∃ b, (kind == 1) = b := ⟨_, rfl⟩
      have hfr : freshB ⟨(k : Int), tag', kind⟩ = (b1 && b2) := by unfold freshB; rw [← hb1, ← hb2]
      have HFR := Lib.hid hfr
      have HB1 := Lib.hid hb1
      have HB2 := Lib.hid hb2
      have e0 : ((k : Int) == (k : Int)) = true := beq_self_eq_true _
      have e1 : (tag' == tag') = true := beq_self_eq_true _
      have e2 : (kind == kind) = true := beq_self_eq_true _
      have hge' : decide (L.length ≤ k) = false := decide_eq_false (by omega)
      have hge : decide ((L.length : Int) ≤ (k : Int)) = false := decide_eq_false (by omega)
      have HW := Lib.hid (wrap_bk k L.length hlt (by omega))
      have HCELL := Lib.hid (fun (W : World) (hW : Hid (Below w8.heap.size w8 W)) => cells_at k hlt hx8.out hW.out (Nat.le_refl _) hx)
      have HN100 := Lib.hid (newsOf_len (L.take k))
      clear hx hsu hfr hb1 hb2
      go_wp2_with (go_at_call 26; (with_reducible refine Calls.mono (At_bk (i := 0) (b := ⟨B1, g1, p1, L⟩) (k := k) (x := ⟨(k : Int), tag', kind⟩) (H8.out.call (hBr)) HX.out HXG.out) ?_); rintro e w9 ⟨rfl, hb9⟩; have hs9 := hb9.size)
      have hBw9 : Below w.heap.size w w9 := (hB.trans (hBr.mono (by omega))).trans (hb9.mono (by omega))
      have hBr9 : Below w8.heap.size w8 w9 := hBr.trans (hb9.mono hsr)
      have hs9_ := hs_.below hBr9 hs__l
      have HO9 := Lib.hid (owns_below HO.out hb9)
      have hs9_l := hs9_.lt
      clear HO hb9
      go_wp2
      refine Ear.wp_world (Ear.AndW (Ear.AndW (Ear.Sh w.heap.size w [(w9.heap.size, _, _), (Sb, _, _)]) (fun W => Hid (W.ownsRow w8.heap.size 32 3 (.slice base (newsOf (L.take k)).length cap) (newsOf (L.take k)).length (ntsV (newsOf (L.take k)))))) (fun W => Below w8.heap.size w8 W)) ⟨⟨(.cons (by (repeat' (first | (show Ear.Blk _ _ _ _; with_reducible assumption) | (with_reducible exact Ear.Blk.new _ _ _) | (with_reducible refine Ear.Blk.new' ?_; (simp only [World.size_alloc, World.size_setCell, World.size_drew, setRow_size]; done)) | (with_reducible apply Ear.Blk.alloc) | (with_reducible apply Ear.Blk.drew) | (with_reducible apply Ear.Blk.setC) | (with_reducible apply Ear.Blk.setC' (e := by omega)) | (with_reducible apply Ear.Blk.rowC (e := by first | rfl | omega)) | (with_reducible apply Ear.Blk.otherRow) | (with_reducible apply Ear.Blk.other) | (show _ ≠ _; (try simp only [World.size_alloc, World.size_setCell, World.size_drew, setRow_size]); omega) | (show _ < _; (try simp only [World.size_alloc, World.size_setCell, World.size_drew, setRow_size]); omega)))) (.cons (by (repeat' (first | (show Ear.Blk _ _ _ _; with_reducible assumption) | (with_reducible exact Ear.Blk.new _ _ _) | (with_reducible refine Ear.Blk.new' ?_; (simp only [World.size_alloc, World.size_setCell, World.size_drew, setRow_size]; done)) | (with_reducible apply Ear.Blk.alloc) | (with_reducible apply Ear.Blk.drew) | (with_reducible apply Ear.Blk.setC) | (with_reducible apply Ear.Blk.setC' (e := by omega)) | (with_reducible apply Ear.Blk.rowC (e := by first | rfl | omega)) | (with_reducible apply Ear.Blk.otherRow) | (with_reducible apply Ear.Blk.other) | (show _ ≠ _; (try simp only [World.size_alloc, World.size_setCell, World.size_drew, setRow_size]); omega) | (show _ < _; (try simp only [World.size_alloc, World.size_setCell, World.size_drew, setRow_size]); omega)))) (.nil (by (repeat' (first | (with_reducible exact Below.refl _ _) | (with_reducible assumption) | (show Below 0 _ _; with_reducible refine Below.mono (by assumption) (Nat.zero_le _)) | (with_reducible refine below_setRow ?_ ?_ _) | (with_reducible refine Below.alloc ?_ ?_ _) | (with_reducible refine Below.drew ?_) | (with_reducible refine Below.setCell ?_ ?_ _) | (with_reducible refine Below.frame ?_ _) | (with_reducible exact Nat.le_refl _) | omega | (simp only [World.size_alloc, World.size_setCell, World.size_drew, setRow_size]; omega) | (simp; omega) | (simp; done))))))), owns_below HO9.out (by (repeat' (first | (with_reducible exact Below.refl _ _) | (with_reducible assumption) | (show Below 0 _ _; with_reducible refine Below.mono (by assumption) (Nat.zero_le _)) | (with_reducible refine below_setRow ?_ ?_ _) | (with_reducible refine Below.alloc ?_ ?_ _) | (with_reducible refine Below.drew ?_) | (with_reducible refine Below.setCell ?_ ?_ _) | (with_reducible refine Below.frame ?_ _) | (with_reducible exact Nat.le_refl _) | omega | (simp only [World.size_alloc, World.size_setCell, World.size_drew, setRow_size]; omega) | (simp; omega) | (simp; done))))⟩, hBr9.trans ((show Below w9.heap.size w9 _ from by (repeat' (first | (with_reducible exact Below.refl _ _) | (with_reducible assumption) | (show Below 0 _ _; with_reducible refine Below.mono (by assumption) (Nat.zero_le _)) | (with_reducible refine below_setRow ?_ ?_ _) | (with_reducible refine Below.alloc ?_ ?_ _) | (with_reducible refine Below.drew ?_) | (with_reducible refine Below.setCell ?_ ?_ _) | (with_reducible refine Below.frame ?_ _) | (with_reducible exact Nat.le_refl _) | omega | (simp only [World.size_alloc, World.size_setCell, World.size_drew, setRow_size]; omega) | (simp; omega) | (simp; done)))).mono (by omega))⟩ ?_; (try clear hx_l); (try clear hx_c); (try clear hx_f); (try clear hx); (try clear hs9__l); (try clear hs9__c); (try clear hs9__f); (try clear hs9_); (try clear HO10); (try clear hBr10); (try clear hB hs); rintro w10 ⟨⟨⟨hx, hs9_, hB⟩, HO10⟩, hBr10⟩; replace hB : Below w.heap.size w w10 := hB; have hs := hB.size; (try simp only [List.set_cons_zero, List.set_cons_succ] at hx); (try simp only [List.set_cons_zero, List.set_cons_succ] at hs9_); have hx_l := hx.lt; have hx_c := hx.cell; have hx_f := hx.frozen; have hs9__l := hs9_.lt; have hs9__c := hs9_.cell; have hs9__f := hs9_.frozen
      obtain ⟨X, hX⟩ : ∃ X, w9.heap.size = X := ⟨_, rfl⟩
      rw [hX] at hx hx_l hx_c hx_f ⊢
      clear hX hs9_l HO9 hBr9 hBw9
      have hs10 := hBr10.size
      obtain ⟨hl5, a0, a1, a2⟩ := HCELL.out w10 hBr10
      refine Ear.Pl.wp_region_qb 24 (by kernel_rfl) (by kernel_rfl) (fun C hC1 hC2 => ?_); simp only [List.take_succ_cons, List.take_zero, List.drop_succ_cons, List.drop_zero]
      (iterate 19 (refine Ear.Pl.wpQ_run (by rfl) ?_; apply Exists.intro; refine ⟨fun K Q hK w' hw' => ?_, ?_⟩; (focus (obtain ⟨hc', hf'⟩ := Ear.bcell (hC1.out w' hw'); simp only [Act.put, List.setIfInBounds_toArray, List.set_cons_succ, List.set_cons_zero] at hK; go_wp2; exact hw')); simp only [Act.put, List.setIfInBounds_toArray, List.set_cons_succ, List.set_cons_zero]))
      refine Ear.Pl.wpQ_run (by rfl) ?_; apply Exists.intro; refine ⟨fun K Q hK w' hw' => ?_, ?_⟩; (focus (simp only [Act.put, List.setIfInBounds_toArray, List.set_cons_succ, List.set_cons_zero] at hK; go_wp2_with (refine (Has_is HSU.out _).mono ?_; rintro e w'' ⟨rfl, hb''⟩); exact hC2.out _ _ hw' hb'')); simp only [Act.put, List.setIfInBounds_toArray, List.set_cons_succ, List.set_cons_zero]
      (iterate 4 (refine Ear.Pl.wpQ_run (by rfl) ?_; apply Exists.intro; refine ⟨fun K Q hK w' hw' => ?_, ?_⟩; (focus (obtain ⟨hc', hf'⟩ := Ear.bcell (hC1.out w' hw'); simp only [Act.put, List.setIfInBounds_toArray, List.set_cons_succ, List.set_cons_zero] at hK; go_wp2; exact hw')); simp only [Act.put, List.setIfInBounds_toArray, List.set_cons_succ, List.set_cons_zero]))
      refine Ear.Pl.wpQ_nil ?_
      intro w11 hb11
      clear hC1 hC2
      have hq11 : Below w10.heap.size w10 w11 := (Below.refl _ _).drew.trans hb11
      have HO11 := Lib.hid (owns_below HO10.out hq11)
      have hBr11 : Below w8.heap.size w8 w11 := hBr10.trans (hq11.mono hs10)
      clear HO10 hl5 a0 a1 a2
      have hB' : Below w.heap.size w w11 := Below.trans (by (repeat' (first | (with_reducible exact Below.refl _ _) | (with_reducible assumption) | (show Below 0 _ _; with_reducible refine Below.mono (by assumption) (Nat.zero_le _)) | (with_reducible refine below_setRow ?_ ?_ _) | (with_reducible refine Below.alloc ?_ ?_ _) | (with_reducible refine Below.drew ?_) | (with_reducible refine Below.setCell ?_ ?_ _) | (with_reducible refine Below.frame ?_ _) | (with_reducible exact Nat.le_refl _) | omega | (simp only [World.size_alloc, World.size_setCell, World.size_drew, setRow_size]; omega) | (simp; omega) | (simp; done)))) (hb11.mono (by (try simp only [World.size_alloc, World.size_setCell, World.size_drew, setRow_size]); omega)); have hx' := (show Ear.Blk w11 (X) _ _ from by (repeat' (first | (show Ear.Blk _ _ _ _; with_reducible assumption) | (with_reducible exact Ear.Blk.new _ _ _) | (with_reducible refine Ear.Blk.new' ?_; (simp only [World.size_alloc, World.size_setCell, World.size_drew, setRow_size]; done)) | (with_reducible apply Ear.Blk.alloc) | (with_reducible apply Ear.Blk.drew) | (with_reducible apply Ear.Blk.setC) | (with_reducible apply Ear.Blk.setC' (e := by omega)) | (with_reducible apply Ear.Blk.rowC (e := by first | rfl | omega)) | (with_reducible apply Ear.Blk.otherRow) | (with_reducible apply Ear.Blk.other) | (with_reducible apply Ear.Blk.below (hb := hb11)) | (show _ ≠ _; (try simp only [World.size_alloc, World.size_setCell, World.size_drew, setRow_size]); omega) | (show _ < _; (try simp only [World.size_alloc, World.size_setCell, World.size_drew, setRow_size]); omega)))); have hs9_' := (show Ear.Blk w11 (Sb) _ _ from by (repeat' (first | (show Ear.Blk _ _ _ _; with_reducible assumption) | (with_reducible exact Ear.Blk.new _ _ _) | (with_reducible refine Ear.Blk.new' ?_; (simp only [World.size_alloc, World.size_setCell, World.size_drew, setRow_size]; done)) | (with_reducible apply Ear.Blk.alloc) | (with_reducible apply Ear.Blk.drew) | (with_reducible apply Ear.Blk.setC) | (with_reducible apply Ear.Blk.setC' (e := by omega)) | (with_reducible apply Ear.Blk.rowC (e := by first | rfl | omega)) | (with_reducible apply Ear.Blk.otherRow) | (with_reducible apply Ear.Blk.other) | (with_reducible apply Ear.Blk.below (hb := hb11)) | (show _ ≠ _; (try simp only [World.size_alloc, World.size_setCell, World.size_drew, setRow_size]); omega) | (show _ < _; (try simp only [World.size_alloc, World.size_setCell, World.size_drew, setRow_size]); omega)))); clear hb11; (try clear hx_l); (try clear hx_c); (try clear hx_f); (try clear hx); have hx := hx'; clear hx'; (try simp only [List.set_cons_zero, List.set_cons_succ] at hx); have hx_l := hx.lt; have hx_c := hx.cell; have hx_f := hx.frozen; (try clear hs9__l); (try clear hs9__c); (try clear hs9__f); (try clear hs9_); have hs9_ := hs9_'; clear hs9_'; (try simp only [List.set_cons_zero, List.set_cons_succ] at hs9_); have hs9__l := hs9_.lt; have hs9__c := hs9_.cell; have hs9__f := hs9_.frozen; (try clear hB hs); have hB := hB'; clear hB'; have hs := hB.size
      clear hq11 hBr10
      have hs11 := hBr11.size
      go_wp2
      refine Ear.Pl.wp_region_qb 3 (by kernel_rfl) (by kernel_rfl) (fun C hC1 hC2 => ?_); simp only [List.take_succ_cons, List.take_zero, List.drop_succ_cons, List.drop_zero]
      (iterate 2 (refine Ear.Pl.wpQ_run (by rfl) ?_; apply Exists.intro; refine ⟨fun K Q hK w' hw' => ?_, ?_⟩; (focus (obtain ⟨hc', hf'⟩ := Ear.bcell (hC1.out w' hw'); simp only [Act.put, List.setIfInBounds_toArray, List.set_cons_succ, List.set_cons_zero] at hK; go_wp2; exact hw')); simp only [Act.put, List.setIfInBounds_toArray, List.set_cons_succ, List.set_cons_zero]))
      refine Ear.Pl.wpQ_run (by rfl) ?_; apply Exists.intro; refine ⟨fun K Q hK w' hw' => ?_, ?_⟩; (focus (simp only [Act.put, List.setIfInBounds_toArray, List.set_cons_succ, List.set_cons_zero] at hK; go_wp2_with (refine (Fresh_calls (k : Int) _).mono ?_; rintro e w'' ⟨rfl, hb''⟩); exact hC2.out _ _ hw' hb'')); simp only [Act.put, List.setIfInBounds_toArray, List.set_cons_succ, List.set_cons_zero]
      refine Ear.Pl.wpQ_nil ?_
      intro w12 hb12
      clear hC1 hC2
      have hq12 : Below w11.heap.size w11 w12 := (Below.refl _ _).drew.trans hb12
      have HO12 := Lib.hid (owns_below HO11.out hq12)
      have hBr12 : Below w8.heap.size w8 w12 := hBr11.trans (hq12.mono hs11)
      clear HO11
      have hB' : Below w.heap.size w w12 := Below.trans (by (repeat' (first | (with_reducible exact Below.refl _ _) | (with_reducible assumption) | (show Below 0 _ _; with_reducible refine Below.mono (by assumption) (Nat.zero_le _)) | (with_reducible refine below_setRow ?_ ?_ _) | (with_reducible refine Below.alloc ?_ ?_ _) | (with_reducible refine Below.drew ?_) | (with_reducible refine Below.setCell ?_ ?_ _) | (with_reducible refine Below.frame ?_ _) | (with_reducible exact Nat.le_refl _) | omega | (simp only [World.size_alloc, World.size_setCell, World.size_drew, setRow_size]; omega) | (simp; omega) | (simp; done)))) (hb12.mono (by (try simp only [World.size_alloc, World.size_setCell, World.size_drew, setRow_size]); omega)); have hx' := (show Ear.Blk w12 (X) _ _ from by (repeat' (first | (show Ear.Blk _ _ _ _; with_reducible assumption) | (with_reducible exact Ear.Blk.new _ _ _) | (with_reducible refine Ear.Blk.new' ?_; (simp only [World.size_alloc, World.size_setCell, World.size_drew, setRow_size]; done)) | (with_reducible apply Ear.Blk.alloc) | (with_reducible apply Ear.Blk.drew) | (with_reducible apply Ear.Blk.setC) | (with_reducible apply Ear.Blk.setC' (e := by omega)) | (with_reducible apply Ear.Blk.rowC (e := by first | rfl | omega)) | (with_reducible apply Ear.Blk.otherRow) | (with_reducible apply Ear.Blk.other) | (with_reducible apply Ear.Blk.below (hb := hb12)) | (show _ ≠ _; (try simp only [World.size_alloc, World.size_setCell, World.size_drew, setRow_size]); omega) | (show _ < _; (try simp only [World.size_alloc, World.size_setCell, World.size_drew, setRow_size]); omega)))); have hs9_' := (show Ear.Blk w12 (Sb) _ _ from by (repeat' (first | (show Ear.Blk _ _ _ _; with_reducible assumption) | (with_reducible exact Ear.Blk.new _ _ _) | (with_reducible refine Ear.Blk.new' ?_; (simp only [World.size_alloc, World.size_setCell, World.size_drew, setRow_size]; done)) | (with_reducible apply Ear.Blk.alloc) | (with_reducible apply Ear.Blk.drew) | (with_reducible apply Ear.Blk.setC) | (with_reducible apply Ear.Blk.setC' (e := by omega)) | (with_reducible apply Ear.Blk.rowC (e := by first | rfl | omega)) | (with_reducible apply Ear.Blk.otherRow) | (with_reducible apply Ear.Blk.other) | (with_reducible apply Ear.Blk.below (hb := hb12)) | (show _ ≠ _; (try simp only [World.size_alloc, World.size_setCell, World.size_drew, setRow_size]); omega) | (show _ < _; (try simp only [World.size_alloc, World.size_setCell, World.size_drew, setRow_size]); omega)))); clear hb12; (try clear hx_l); (try clear hx_c); (try clear hx_f); (try clear hx); have hx := hx'; clear hx'; (try simp only [List.set_cons_zero, List.set_cons_succ] at hx); have hx_l := hx.lt; have hx_c := hx.cell; have hx_f := hx.frozen; (try clear hs9__l); (try clear hs9__c); (try clear hs9__f); (try clear hs9_); have hs9_ := hs9_'; clear hs9_'; (try simp only [List.set_cons_zero, List.set_cons_succ] at hs9_); have hs9__l := hs9_.lt; have hs9__c := hs9_.cell; have hs9__f := hs9_.frozen; (try clear hB hs); have hB := hB'; clear hB'; have hs := hB.size
      clear hq12 hBr11
      have hs12 := hBr12.size
      have hb1 := HB1.out
      have hb2 := HB2.out
      clear HB1 HB2
      cases b1 <;> cases b2
      rotate_right 1
      · have HNEW := Lib.hid (show newsOf (L.take (k + 1)) = newsOf (L.take k) from by rw [HSN.out, HFR.out]; simp)
        go_wp2
        go_roundw
        case rel => exact ⟨k + 1, base, cap, hlt, by go_num, by rw [HNEW.out], by rw [HNEW.out]; exact HO12, hBr12⟩
        case measure => simp [intOf]; omega
      all_goals
        have HNEW := Lib.hid (show newsOf (L.take (k + 1)) = newsOf (L.take k) ++ [⟨(k : Int), tag', kind⟩] from by rw [HSN.out, HFR.out]; rfl)
        have hown := HO12.out
        have hn100 := HN100.out
        have htk : (L.take k).length ≤ k := List.length_take_le _ _
        go_wp2_with (at_builtin; refine wpList_append_own _ rfl _ _ 22 rfl w8.heap.size 32 i0 _ 3 24 Try.underlying22 HI.out HZ0.out HZ1.out HZ2.out rfl (by decide) _ _ _ rfl (hown.alloc _) ⟨w12.heap.size, 0, none⟩ 1 1 [.int .i64 (k : Int), .int .i64 tag', .int .i64 kind] rfl rfl ?c1 ?c2 ?c3 ?c4 ?c5 ?_)
        case c1 => exact Ear.cells_new w12 [.int .i64 (k : Int), .int .i64 tag', .int .i64 kind] _
        case c2 => simp [Value.oneCell']
        case c3 => unfold maxLen; omega
        case c4 => omega
        case c5 => first | omega | (simp; omega)
        intro v' w13 hown' hgrow _
        obtain ⟨base', cap', rfl⟩ := owns_slice hown'
        have HO13 := Lib.hid hown'
        have hBr13 : Below w8.heap.size w8 w13 := (hBr12.alloc (by omega) _).grown hgrow (by first | omega | (simp; omega)) (fun j hj => by have := (hown.lt j hj).1; omega)
        clear hown hown' hgrow
        go_wp2
        go_roundw
        case rel => exact ⟨k + 1, base', cap', hlt, by go_num, by rw [HNEW.out, List.length_append, List.length_singleton], Lib.hid (by rw [HNEW.out, List.length_append, List.length_singleton, ntsV_snoc]; simpa [ntV] using HO13.out), hBr13⟩
        case measure => simp [intOf]; omega
    · have hkl : k = L.length := by omega
      subst hkl
      have hown := HO.out
      rw [List.take_length] at hown
      have hy := Lib.hid (owns_liesV hown)
      have hn5 : (newsOf L).length ≤ 5000 := by have := newsOf_len L; omega
      have hrise := rise_book HOK.out 0 (by omega)
      rw [List.drop_zero, show (((0 : Nat) : Int) - 1) = -1 from rfl] at hrise
      have HRI := Lib.hid hrise
      have hin := susp_in HOK.out
      rw [HS.out] at hin
      have HIN := Lib.hid hin
      have hsr_ := hs_.below hBr hs__l
      have hsr_l := hsr_.lt
      have hx9 := Lib.hid (LiesV.below hx8.out hBr)
      have hy9 := Lib.hid (LiesV.below hy8.out hBr)
      have hBw := hB.trans (hBr.mono (by omega))
      rw [List.take_length]
      clear hown HO hrise hin
      go_wp2_with (first
        | (go_at_call 11; (with_reducible refine Calls.mono (alive_calls _) ?_); rintro e w14 ⟨rfl, hb14⟩)
        | (go_at_call 28; (with_reducible refine Calls.mono (SameN_eq (newsOf L) _ _ _ _ _ hn5 (LiesV.below hy9.out hb14) (LiesV.below hy.out hb14)) ?_); rintro e w15 ⟨rfl, hb15⟩; have hb15' := hb14.trans (hb15.mono hb14.size))
        | (go_at_call 29; (with_reducible refine Calls.mono (Rising_eq HRI.out _ _ _ (by omega) (LiesV.below hx9.out hb15')) ?_); rintro e w16 ⟨rfl, hb16⟩; have hb16' := hb15'.trans (hb16.mono hb15'.size); have hs16 := hsr_.below hb16' hsr_l; have hs16_l := hs16.lt; have hs16_c := hs16.cell)
        | (go_at_call 30; (with_reducible refine Calls.mono (Within_is HIN.out _) ?_); rintro e w17 ⟨rfl, hb17⟩; have hb17' := hb16'.trans (hb17.mono hb16'.size)))
      go_ret
      exact ⟨rfl, hBw.trans (hb17'.mono hBw.size)⟩
theorem BookShown_calls (n self tag : Int) (l : List Nt) (lb : Option Addr) (lc : Nat) (w : World) (hL : LiesV (ntsV l) lb w) :
    Calls Try.prog 8 #[.int .i64 n, .int .i64 self, .int .i64 tag, .slice lb l.length lc] w fun e w' => e = .returned (.bool true) ∧ Below w.heap.size w w' := by
  by_cases h : newErr n self tag = 0
  · by_cases hl : l.length ≤ 300
    · exact Shown_good n self tag l lb lc w h hl hL
    · exact Shown_long n self tag l.length lb lc w h (by omega)
  · exact Shown_bad n self tag l.length lb lc w h
end Go.Proofs.Ytfkgllbooopfdaa
