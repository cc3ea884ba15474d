/-
  What the law BookNever comes to.
-/
import Derived.Test.YtfkgllbooopfdaaBookU
import Derived.Test.YtfkgllbooopfdaaOpenNN
namespace Go.Proofs.Ytfkgllbooopfdaa
set_option linter.unusedSimpArgs false
set_option linter.unusedVariables false
open Go.RowKit
theorem hasV_zero (i : Int) : hasV 0#128 i = false := by unfold hasV; split <;> simp
theorem never_get {L M : List Nt} {S : BitVec 128} (hL : BookOk L) (l : List Nt) (hM : mergeN L l = M) (hS : mergeS L l = S) (k : Nat) (hk : k < L.length) :
    ∃ (h : k < M.length), M[k].of_ = (k : Int) ∧ ∃ up, beatsN M[k] L[k] = up ∧ hasV S (k : Int) = up ∧ (up = false → M[k] = L[k]) := by
  have hlM : M.length = L.length := by rw [← hM, mergeN_len]
  have hlen : k < M.length := by rw [hlM]; exact hk
  obtain ⟨o1, r1⟩ := (hM ▸ mergeN_ok hL l : BookOk M).each k hlen
  obtain ⟨o2, r2⟩ := hL.each k hk
  have hb : beatsN M[k] L[k] = decide (rankN L[k] < rankN M[k]) := by
    unfold beatsN
    rw [decide_eq_true (by omega), decide_eq_true r2]; rfl
  have key : hasV S (k : Int) = decide (rankN L[k] < rankN M[k]) ∧ rankN L[k] ≤ rankN M[k] := by
    unfold mergeS at hS
    unfold mergeN at hM
    cases hm : mergeOk L.length l with
    | true =>
      rw [if_pos hm] at hS hM
      subst hS hM
      exact ⟨by rw [hasV_chg hL l 0#128 k hk, hasV_zero, Bool.false_or], rank_mono hL l k hk⟩
    | false =>
      rw [if_neg (by rw [hm]; decide)] at hS hM
      subst hS hM
      rw [hasV_zero]
      exact ⟨(decide_eq_false (by omega)).symm, Int.le_refl _⟩
  refine ⟨hlen, o1, _, hb, key.1, fun h => ?_⟩
  rw [decide_eq_false_iff_not] at h
  exact rank_inj r1 (by omega) (by have := key.2; omega)
theorem merge_err (L l : List Nt) : (mergeE L l = 0) ∨ (mergeE L l = 50 ∧ mergeS L l = 0#128) := by
  unfold mergeE mergeS
  cases mergeOk L.length l with
  | true => exact .inl rfl
  | false => exact .inr ⟨rfl, rfl⟩
theorem sls_get {ll : List Sl} {base : Option Addr} {w w' : World} {n : Nat} (k : Nat) (hk : k < ll.length) (hL : LiesV (slsV ll) base w) (hB : Below n w w') (hn : w.heap.size ≤ n) :
    ∃ B o, base = some ⟨B, o, none⟩ ∧ B < w'.heap.size ∧ w'.cell? ⟨B, o + k, none⟩ = some (.slice ll[k].b ll[k].l.length ll[k].c) := by
  obtain ⟨B, o, rfl, hBl, hc⟩ := hL k (by rw [slsV_len]; exact hk)
  refine ⟨B, o, rfl, Nat.lt_of_lt_of_le hBl hB.size, ?_⟩
  rw [hB.cell (p := ⟨B, o + k, none⟩) (Nat.lt_of_lt_of_le hBl hn), hc]
  simp [slsV, slV, hk]
theorem Has_is {v : BitVec 128} {i : Int} {b : Bool} (h : hasV v i = b) (w : World) : Calls Try.prog 21 #[.agg #[.int .u32 (Ear.wd (v) 0), .int .u32 (Ear.wd (v) 1), .int .u32 (Ear.wd (v) 2), .int .u32 (Ear.wd (v) 3)], .int .i64 i] w fun e w' => e = .returned (.bool b) ∧ Below w.heap.size w w' := by subst h; exact Has_val v i w
theorem cells_at {L : List Nt} {g : Nat} {x : Nt} {w w' : World} {n : Nat} (k : Nat) (hk : k < L.length) (hL : LiesV (ntsV L) (some ⟨g, 0, none⟩) w) (hB : Below n w w') (hn : w.heap.size ≤ n) (hx : L[k] = x) :
    g < w'.heap.size ∧ w'.cell? ⟨g, k * 3, none⟩ = some (.int .i64 x.of_) ∧ w'.cell? ⟨g, k * 3 + 1, none⟩ = some (.int .i64 x.tag) ∧ w'.cell? ⟨g, k * 3 + 2, none⟩ = some (.int .i64 x.kind) := by
  obtain ⟨B, o, he, hl, a0, a1, a2⟩ := nts_get k hk hL hB hn
  simp only [Option.some.injEq, Addr.mk.injEq] at he
  obtain ⟨rfl, rfl, -⟩ := he
  rw [hx] at a0 a1 a2
  simp only [Nat.zero_add] at a0 a1 a2
  exact ⟨hl, a0, a1, a2⟩
attribute [local irreducible] takesN takeN newErr newB mergeOk takeB mergeN mergeS mergeE Ear.Pl.wpQ
set_option maxRecDepth 100000 in
set_option maxHeartbeats 2000000 in
theorem Never_bad (n self tag : Int) (N : Nat) (lb : Option Addr) (lc : Nat) (w : World) (h : newErr n self tag ≠ 0) :
    Calls Try.prog 5 #[.int .i64 n, .int .i64 self, .int .i64 tag, .slice lb N lc] w fun e w' => e = .returned (.bool true) ∧ Below w.heap.size w w' := by
  obtain ⟨c, hc⟩ : ∃ c, newErr n self tag = c := ⟨_, rfl⟩
  have HE := Lib.hid hc
  rw [hc] at h
  have HC := Lib.hid h
  have e3 : (c != 0) = true := by rw [bne_iff_ne]; exact h
  clear hc h
  go_enter Try.func5, Try.ntmps5
  go_wp2_with (first | (go_at_call 9; (with_reducible refine Calls.mono (New_badB _ HE.out HC.out) ?_); rintro e w1 ⟨rfl, hb1⟩; have hB' : Below w.heap.size w w1 := Below.trans (by (repeat' (first | (with_reducible exact Below.refl _ _) | (with_reducible assumption) | (show Below 0 _ _; with_reducible refine Below.mono (by assumption) (Nat.zero_le _)) | (with_reducible refine below_setRow ?_ ?_ _) | (with_reducible refine Below.alloc ?_ ?_ _) | (with_reducible refine Below.drew ?_) | (with_reducible refine Below.setCell ?_ ?_ _) | (with_reducible refine Below.frame ?_ _) | (with_reducible exact Nat.le_refl _) | omega | (simp only [World.size_alloc, World.size_setCell, World.size_drew, setRow_size]; omega) | (simp; omega) | (simp; done)))) (hb1.mono (by (try simp only [World.size_alloc, World.size_setCell, World.size_drew, setRow_size]); omega)); clear hb1; (try clear hB hs); have hB := hB'; clear hB'; have hs := hB.size) | (go_at_call 11; (with_reducible refine Calls.mono (alive_calls _) ?_); rintro e w3 ⟨rfl, hb3⟩; have hB' : Below w.heap.size w w3 := Below.trans (by (repeat' (first | (with_reducible exact Below.refl _ _) | (with_reducible assumption) | (show Below 0 _ _; with_reducible refine Below.mono (by assumption) (Nat.zero_le _)) | (with_reducible refine below_setRow ?_ ?_ _) | (with_reducible refine Below.alloc ?_ ?_ _) | (with_reducible refine Below.drew ?_) | (with_reducible refine Below.setCell ?_ ?_ _) | (with_reducible refine Below.frame ?_ _) | (with_reducible exact Nat.le_refl _) | omega | (simp only [World.size_alloc, World.size_setCell, World.size_drew, setRow_size]; omega) | (simp; omega) | (simp; done)))) (hb3.mono (by (try simp only [World.size_alloc, World.size_setCell, World.size_drew, setRow_size]); omega)); clear hb3; (try clear hB hs); have hB := hB'; clear hB'; have hs := hB.size))
  go_ret
  exact ⟨rfl, hB⟩
set_option maxRecDepth 100000 in
set_option maxHeartbeats 2000000 in
theorem Never_long (n self tag : Int) (N : Nat) (lb : Option Addr) (lc : Nat) (w : World) (h : newErr n self tag = 0) (hN : 40 < N) :
    Calls Try.prog 5 #[.int .i64 n, .int .i64 self, .int .i64 tag, .slice lb N lc] w fun e w' => e = .returned (.bool true) ∧ Below w.heap.size w w' := by
  have HE := Lib.hid h
  have hN' : decide ((40 : Int) < (N : Int)) = true := decide_eq_true (by omega)
  clear h
  go_enter Try.func5, Try.ntmps5
  go_wp2_with (first | (go_at_call 9; (with_reducible refine Calls.mono (New_any HE.out _) ?_); rintro e w1 ⟨B1, rfl, hb1⟩; have hB' : Below w.heap.size w w1 := Below.trans (by (repeat' (first | (with_reducible exact Below.refl _ _) | (with_reducible assumption) | (show Below 0 _ _; with_reducible refine Below.mono (by assumption) (Nat.zero_le _)) | (with_reducible refine below_setRow ?_ ?_ _) | (with_reducible refine Below.alloc ?_ ?_ _) | (with_reducible refine Below.drew ?_) | (with_reducible refine Below.setCell ?_ ?_ _) | (with_reducible refine Below.frame ?_ _) | (with_reducible exact Nat.le_refl _) | omega | (simp only [World.size_alloc, World.size_setCell, World.size_drew, setRow_size]; omega) | (simp; omega) | (simp; done)))) (hb1.mono (by (try simp only [World.size_alloc, World.size_setCell, World.size_drew, setRow_size]); omega)); clear hb1; (try clear hB hs); have hB := hB'; clear hB'; have hs := hB.size) | (go_at_call 11; (with_reducible refine Calls.mono (alive_calls _) ?_); rintro e w3 ⟨rfl, hb3⟩; have hB' : Below w.heap.size w w3 := Below.trans (by (repeat' (first | (with_reducible exact Below.refl _ _) | (with_reducible assumption) | (show Below 0 _ _; with_reducible refine Below.mono (by assumption) (Nat.zero_le _)) | (with_reducible refine below_setRow ?_ ?_ _) | (with_reducible refine Below.alloc ?_ ?_ _) | (with_reducible refine Below.drew ?_) | (with_reducible refine Below.setCell ?_ ?_ _) | (with_reducible refine Below.frame ?_ _) | (with_reducible exact Nat.le_refl _) | omega | (simp only [World.size_alloc, World.size_setCell, World.size_drew, setRow_size]; omega) | (simp; omega) | (simp; done)))) (hb3.mono (by (try simp only [World.size_alloc, World.size_setCell, World.size_drew, setRow_size]); omega)); clear hb3; (try clear hB hs); have hB := hB'; clear hB'; have hs := hB.size))
  go_ret
  exact ⟨rfl, hB⟩
set_option maxRecDepth 100000 in
set_option maxHeartbeats 8000000 in
theorem Never_good (n self tag : Int) (ll : List Sl) (lb : Option Addr) (lc : Nat) (w : World) (h : newErr n self tag = 0) (hN : ll.length ≤ 40) (hL : LiesV (slsV ll) lb w) (hS : ∀ s ∈ ll, SlOk w s) :
    Calls Try.prog 5 #[.int .i64 n, .int .i64 self, .int .i64 tag, .slice lb ll.length lc] w fun e w' => e = .returned (.bool true) ∧ Below w.heap.size w w' := by
  have HE := Lib.hid h
  have HL := Lib.hid hL
  have HS := Lib.hid hS
  have hok := newB_ok h
  have hn0 := newB_len h
  obtain ⟨L0, hL0⟩ : ∃ L0, newB n self tag = L0 := ⟨_, rfl⟩
  have HL0 := Lib.hid hL0
  rw [hL0] at hok hn0
  obtain rfl : n = (L0.length : Int) := hn0.symm
  have hn5 : L0.length ≤ 100 := hok.most
  have HOK := Lib.hid hok
  have hN' : decide ((40 : Int) < (ll.length : Int)) = false := decide_eq_false (by omega)
  obtain ⟨N, hNN⟩ : ∃ N, L0.length = N := ⟨_, rfl⟩
  rw [hNN] at HE HL0 hn5 ⊢
  have HNN := Lib.hid hNN
  clear h hL hS hok hL0 hn0 hNN
  go_enter Try.func5, Try.ntmps5
  go_wp2_with (go_at_call 9; (with_reducible refine Calls.mono (New_L (Books.nil (w0 := w) (by (repeat' (first | (with_reducible exact Below.refl _ _) | (with_reducible assumption) | (show Below 0 _ _; with_reducible refine Below.mono (by assumption) (Nat.zero_le _)) | (with_reducible refine below_setRow ?_ ?_ _) | (with_reducible refine Below.alloc ?_ ?_ _) | (with_reducible refine Below.drew ?_) | (with_reducible refine Below.setCell ?_ ?_ _) | (with_reducible refine Below.frame ?_ _) | (with_reducible exact Nat.le_refl _) | omega | (simp only [World.size_alloc, World.size_setCell, World.size_drew, setRow_size]; omega) | (simp; omega) | (simp; done))))) HE.out HL0.out) ?_); rintro e w1 ⟨B1, g1, p1, rfl, hb⟩; simp only [List.nil_append] at hb; have H1 := Lib.hid hb; have hg1 : w.heap.size ≤ g1 := (hb.at_ 0 _ rfl).1.g_lt.1; clear hb)
  go_loopw [11] (fun i wr => ∃ (k : Nat) (L : List Nt), k ≤ ll.length ∧ i = .int .i64 k ∧ Hid (Books w wr [⟨B1, g1, p1, L⟩]) ∧ Hid (L.length = N)) (fun i _ => ll.length - (intOf i).toNat)
  case atStart => exact ⟨0, L0, by omega, rfl, H1, HNN⟩
  case round =>
    clear H1
    obtain ⟨k, L, hk, rfl, H, HLN⟩ := hrel
    have hB0 := H.out.below
    have hs0 := hB0.size
    by_cases hlt : k < ll.length
    · obtain ⟨Bs, o, rfl, hBs, c0⟩ := sls_get k hlt HL.out hB0 (Nat.le_refl _)
      obtain ⟨hsl, hsc, -⟩ := HS.out _ (List.getElem_mem hlt)
      obtain ⟨⟨sb, sc, l⟩, hx⟩ : ∃ x, ll[k] = x := ⟨_, rfl⟩
      rw [hx] at c0 hsl hsc
      dsimp only at c0 hsl hsc
      have HSL := Lib.hid hsl
      have HNE := Lib.hid (arg_ne hsl hg1)
      have HW := Lib.hid (wrap_bk k ll.length hlt (by omega))
      clear hx hsl hsc
      by_cases hl3 : l.length ≤ 300
      · have HLI : Hid (decide ((l.length : Int) ≤ 300) = true) := decide_eq_true (by omega)
        have hokL : BookOk L := (H.out.at_ 0 _ rfl).2.2
        have hml := mergeN_len L l
        obtain ⟨M, hM⟩ : ∃ M, mergeN L l = M := ⟨_, rfl⟩
        have hme := merge_err L l
        obtain ⟨S, hS⟩ : ∃ S, mergeS L l = S := ⟨_, rfl⟩
        obtain ⟨F, hF⟩ : ∃ F, mergeE L l = F := ⟨_, rfl⟩
        have hnv := fun k hk => never_get hokL l hM hS k hk
        rw [hM] at hml
        rw [hF, hS] at hme
        have HNV := Lib.hid hnv
        have HM := Lib.hid hM
        have HSS := Lib.hid hS
        have HF := Lib.hid hF
        have HML := Lib.hid (hml.trans HLN.out)
        have HME := Lib.hid hme
        clear hokL hnv hml hM hS hF hme
        go_wp2_with (first
          | (go_at_call 10; refine (light_eq HLI.out _).mono ?_; rintro e w' ⟨rfl, rfl⟩)
          | (go_at_call 18; (with_reducible refine Calls.mono (List_N 0 H.out rfl) ?_); rintro e w5 ⟨g5, p5, rfl, hx, hg5, hb⟩; rw [HLN.out]; have hq1 := (H.out.at_ 0 _ rfl).1.g_lt.2; have H5 := Lib.hid (H.out.call hb); have hc0 := (hb.cell (p := ⟨Bs, o + k, none⟩) hBs).trans c0; clear hb c0)
          | (go_at_call 13; (with_reducible refine Calls.mono (Merge_all 0 l sb sc H5.out rfl (LiesV.below HSL.out H5.out.below) (by omega) HNE.out) ?_); rintro e w6 ⟨rfl, hb, hk⟩; rw [HM.out] at hb; rw [HSS.out, HF.out]; simp only [List.set_cons_zero] at hb; have H6 := Lib.hid hb; have hx6 := Lib.hid (LiesV.keep hx.out hk (show ¬ g5 = g1 by omega)); clear hb hk hx))
        refine Calls.mono (List_N 0 (H6.out.call (by (repeat' (first | (with_reducible exact Below.refl _ _) | (with_reducible assumption) | (show Below 0 _ _; with_reducible refine Below.mono (by assumption) (Nat.zero_le _)) | (with_reducible refine below_setRow ?_ ?_ _) | (with_reducible refine Below.alloc ?_ ?_ _) | (with_reducible refine Below.drew ?_) | (with_reducible refine Below.setCell ?_ ?_ _) | (with_reducible refine Below.frame ?_ _) | (with_reducible exact Nat.le_refl _) | omega | (simp only [World.size_alloc, World.size_setCell, World.size_drew, setRow_size]; omega) | (simp; omega) | (simp; done))))) rfl) ?_
        rintro e w7 ⟨g7, p7, rfl, hy, hg7, hb7⟩
        rw [HML.out]
        have H7 := Lib.hid ((H6.out.call (show Below w6.heap.size w6 _ from by (repeat' (first | (with_reducible exact Below.refl _ _) | (with_reducible assumption) | (show Below 0 _ _; with_reducible refine Below.mono (by assumption) (Nat.zero_le _)) | (with_reducible refine below_setRow ?_ ?_ _) | (with_reducible refine Below.alloc ?_ ?_ _) | (with_reducible refine Below.drew ?_) | (with_reducible refine Below.setCell ?_ ?_ _) | (with_reducible refine Below.frame ?_ _) | (with_reducible exact Nat.le_refl _) | omega | (simp only [World.size_alloc, World.size_setCell, World.size_drew, setRow_size]; omega) | (simp; omega) | (simp; done))))).call hb7)
        have hs_ : Ear.Blk w7 w6.heap.size 35 [.int .u32 (Ear.wd (S) 0), .int .u32 (Ear.wd (S) 1), .int .u32 (Ear.wd (S) 2), .int .u32 (Ear.wd (S) 3)] := by (repeat' (first | (show Ear.Blk _ _ _ _; with_reducible assumption) | (with_reducible exact Ear.Blk.new _ _ _) | (with_reducible refine Ear.Blk.new' ?_; (simp only [World.size_alloc, World.size_setCell, World.size_drew, setRow_size]; done)) | (with_reducible apply Ear.Blk.alloc) | (with_reducible apply Ear.Blk.drew) | (with_reducible apply Ear.Blk.setC) | (with_reducible apply Ear.Blk.setC' (e := by omega)) | (with_reducible apply Ear.Blk.rowC (e := by first | rfl | omega)) | (with_reducible apply Ear.Blk.otherRow) | (with_reducible apply Ear.Blk.other) | (with_reducible apply Ear.Blk.below (hb := hb7)) | (show _ ≠ _; (try simp only [World.size_alloc, World.size_setCell, World.size_drew, setRow_size]); omega) | (show _ < _; (try simp only [World.size_alloc, World.size_setCell, World.size_drew, setRow_size]); omega)))
        have hx7 := Lib.hid (LiesV.below hx6.out ((show Below w6.heap.size w6 _ from by (repeat' (first | (with_reducible exact Below.refl _ _) | (with_reducible assumption) | (show Below 0 _ _; with_reducible refine Below.mono (by assumption) (Nat.zero_le _)) | (with_reducible refine below_setRow ?_ ?_ _) | (with_reducible refine Below.alloc ?_ ?_ _) | (with_reducible refine Below.drew ?_) | (with_reducible refine Below.setCell ?_ ?_ _) | (with_reducible refine Below.frame ?_ _) | (with_reducible exact Nat.le_refl _) | omega | (simp only [World.size_alloc, World.size_setCell, World.size_drew, setRow_size]; omega) | (simp; omega) | (simp; done)))).trans (hb7.mono (by (try simp only [World.size_alloc, World.size_setCell, World.size_drew, setRow_size]); omega))))
        have hB7 := H7.out.below
        have hz7 := hB7.size
        obtain ⟨Sb, hSb⟩ : ∃ Sb, w6.heap.size = Sb := ⟨_, rfl⟩
        rw [hSb] at hs_ ⊢
        clear hb7 hx6 H6 hSb hc0
        have hs__l := hs_.lt
        have hs__c := hs_.cell
        have hme := HME.out
        rcases hme with rfl | ⟨rfl, hS0⟩
        all_goals
          (try have HC0 := Lib.hid (show Ear.cnt128 (Ear.clean S) = 0 from by rw [hS0]; decide))
          (try clear hS0)
          go_wp2_with (go_at_call 19; (with_reducible refine Calls.mono (Count_eq HC0.out _) ?_); rintro e w8 ⟨rfl, hb8⟩; have hq8 := hb8; clear hs__c)
          (try clear hs__c)
          go_loopw [16, 17] (fun i _ wv => ∃ j : Nat, j ≤ N ∧ i = .int .i64 j ∧ Below w7.heap.size w7 wv) (fun i _ _ => N - (intOf i).toNat)
          case atStart => first | exact ⟨0, by omega, rfl, Below.refl _ _⟩ | exact ⟨0, by omega, rfl, hq8⟩
          case round =>
            obtain ⟨j, hj, rfl, hBv⟩ := hrel
            have hsv := hBv.size
            by_cases hjt : j < N
            · obtain ⟨hjM, ho, up, hup, hhas, hsame⟩ := HNV.out j (by rw [HLN.out]; exact hjt)
              have hjL : j < L.length := by rw [HLN.out]; exact hjt
              obtain ⟨x, hx⟩ : ∃ x, L[j] = x := ⟨_, rfl⟩
              obtain ⟨y, hy'⟩ : ∃ y, M[j] = y := ⟨_, rfl⟩
              rw [hx] at hup hsame
              rw [hy'] at hup hsame ho
              have HUP := Lib.hid hup
              have HHAS := Lib.hid hhas
              have HSAME := Lib.hid hsame
              have HO := Lib.hid ho
              have hup2 : beatsN ⟨(j : Int), y.tag, y.kind⟩ x = up := by rw [← HUP.out]; congr 1; exact Nt.ext' HO.out.symm rfl rfl
              have HUP2 := Lib.hid hup2
              have HCELL := Lib.hid (fun (W : World) (hW : Hid (Below w7.heap.size w7 W)) => (⟨cells_at j hjL hx7.out hW.out (Nat.le_refl _) hx, cells_at j hjM hy.out hW.out (Nat.le_refl _) hy'⟩ : (g5 < W.heap.size ∧ W.cell? ⟨g5, j * 3, none⟩ = some (.int .i64 x.of_) ∧ W.cell? ⟨g5, j * 3 + 1, none⟩ = some (.int .i64 x.tag) ∧ W.cell? ⟨g5, j * 3 + 2, none⟩ = some (.int .i64 x.kind)) ∧ (g7 < W.heap.size ∧ W.cell? ⟨g7, j * 3, none⟩ = some (.int .i64 y.of_) ∧ W.cell? ⟨g7, j * 3 + 1, none⟩ = some (.int .i64 y.tag) ∧ W.cell? ⟨g7, j * 3 + 2, none⟩ = some (.int .i64 y.kind))))
              have hsv_ := hs_.below hBv hs__l
              have HWj := Lib.hid (wrap_bk j N hjt (by omega))
              obtain ⟨⟨hl5, a0, a1, a2⟩, hl7, c0, c1, c2⟩ := HCELL.out _ hBv
              rw [HO.out] at c0
              clear hx hy' hup hhas hsame ho hup2
              go_wp2
              refine Ear.Pl.wp_region_qb 9 (by kernel_rfl) (by kernel_rfl) (fun C hC1 hC2 => ?_); simp only [List.take_succ_cons, List.take_zero, List.drop_succ_cons, List.drop_zero]
              (iterate 8 (refine Ear.Pl.wpQ_run (by rfl) ?_; apply Exists.intro; refine ⟨fun K Q hK w' hw' => ?_, ?_⟩; (focus (obtain ⟨hc', hf'⟩ := Ear.bcell (hC1.out w' hw'); simp only [Act.put, List.setIfInBounds_toArray, List.set_cons_succ, List.set_cons_zero] at hK; go_wp2; exact hw')); simp only [Act.put, List.setIfInBounds_toArray, List.set_cons_succ, List.set_cons_zero]))
              refine Ear.Pl.wpQ_run (by rfl) ?_; apply Exists.intro; refine ⟨fun K Q hK w' hw' => ?_, ?_⟩; (focus (simp only [Act.put, List.setIfInBounds_toArray, List.set_cons_succ, List.set_cons_zero] at hK; go_wp2_with (refine (Beats_eq HUP2.out _).mono ?_; rintro e w'' ⟨rfl, hb''⟩); exact hC2.out _ _ hw' hb'')); simp only [Act.put, List.setIfInBounds_toArray, List.set_cons_succ, List.set_cons_zero]
              refine Ear.Pl.wpQ_nil ?_
              intro w9 hb9
              clear hC1 hC2 hl5 a0 a1 a2 hl7 c0 c1 c2
              have hB9 : Below w7.heap.size w7 w9 := hBv.trans (((Below.refl _ _).drew.trans hb9).mono hsv)
              have hs9_ := hs_.below hB9 hs__l
              have hbl := hs9_.lt
              have hbc := hs9_.cell
              have hsz9 := hB9.size
              obtain ⟨⟨hl5, a0, a1, a2⟩, hl7, c0, c1, c2⟩ := HCELL.out w9 hB9
              rw [HO.out] at c0
              clear hb9 hsv_
              cases up with
              | true =>
                go_wp2
                refine Ear.Pl.wp_region_qb 28 (by kernel_rfl) (by kernel_rfl) (fun C hC1 hC2 => ?_); simp only [List.take_succ_cons, List.take_zero, List.drop_succ_cons, List.drop_zero]
                (iterate 11 (refine Ear.Pl.wpQ_run (by rfl) ?_; apply Exists.intro; refine ⟨fun K Q hK w' hw' => ?_, ?_⟩; (focus (obtain ⟨hc', hf'⟩ := Ear.bcell (hC1.out w' hw'); simp only [Act.put, List.setIfInBounds_toArray, List.set_cons_succ, List.set_cons_zero] at hK; go_wp2; exact hw')); simp only [Act.put, List.setIfInBounds_toArray, List.set_cons_succ, List.set_cons_zero]))
                refine Ear.Pl.wpQ_run (by rfl) ?_; apply Exists.intro; refine ⟨fun K Q hK w' hw' => ?_, ?_⟩; (focus (simp only [Act.put, List.setIfInBounds_toArray, List.set_cons_succ, List.set_cons_zero] at hK; go_wp2_with (refine (Has_is HHAS.out _).mono ?_; rintro e w'' ⟨rfl, hb''⟩); exact hC2.out _ _ hw' hb'')); simp only [Act.put, List.setIfInBounds_toArray, List.set_cons_succ, List.set_cons_zero]
                (iterate 6 (refine Ear.Pl.wpQ_run (by rfl) ?_; apply Exists.intro; refine ⟨fun K Q hK w' hw' => ?_, ?_⟩; (focus (obtain ⟨hc', hf'⟩ := Ear.bcell (hC1.out w' hw'); simp only [Act.put, List.setIfInBounds_toArray, List.set_cons_succ, List.set_cons_zero] at hK; go_wp2; exact hw')); simp only [Act.put, List.setIfInBounds_toArray, List.set_cons_succ, List.set_cons_zero]))
                (iterate 9 (refine Ear.Pl.wpQ_skip (by rfl) ?_; simp only [Act.put, List.setIfInBounds_toArray, List.set_cons_succ, List.set_cons_zero]))
                (iterate 1 (refine Ear.Pl.wpQ_run (by rfl) ?_; apply Exists.intro; refine ⟨fun K Q hK w' hw' => ?_, ?_⟩; (focus (obtain ⟨hc', hf'⟩ := Ear.bcell (hC1.out w' hw'); simp only [Act.put, List.setIfInBounds_toArray, List.set_cons_succ, List.set_cons_zero] at hK; go_wp2; exact hw')); simp only [Act.put, List.setIfInBounds_toArray, List.set_cons_succ, List.set_cons_zero]))
                refine Ear.Pl.wpQ_nil ?_
                intro w10 hb10
                clear hC1 hC2
                go_wp2
                go_roundw
                case rel => exact ⟨j + 1, hjt, by go_num, hB9.trans (((Below.refl _ _).drew.trans hb10).mono hsz9)⟩
                case measure => simp [intOf]; omega
              | false =>
                have hxy := HSAME.out rfl
                subst hxy
                rw [HO.out] at a0
                have e1 : (y.tag == y.tag) = true := beq_self_eq_true _
                have e2 : (y.kind == y.kind) = true := beq_self_eq_true _
                go_wp2
                refine Ear.Pl.wp_region_qb 28 (by kernel_rfl) (by kernel_rfl) (fun C hC1 hC2 => ?_); simp only [List.take_succ_cons, List.take_zero, List.drop_succ_cons, List.drop_zero]
                (iterate 11 (refine Ear.Pl.wpQ_run (by rfl) ?_; apply Exists.intro; refine ⟨fun K Q hK w' hw' => ?_, ?_⟩; (focus (obtain ⟨hc', hf'⟩ := Ear.bcell (hC1.out w' hw'); simp only [Act.put, List.setIfInBounds_toArray, List.set_cons_succ, List.set_cons_zero] at hK; go_wp2; exact hw')); simp only [Act.put, List.setIfInBounds_toArray, List.set_cons_succ, List.set_cons_zero]))
                refine Ear.Pl.wpQ_run (by rfl) ?_; apply Exists.intro; refine ⟨fun K Q hK w' hw' => ?_, ?_⟩; (focus (simp only [Act.put, List.setIfInBounds_toArray, List.set_cons_succ, List.set_cons_zero] at hK; go_wp2_with (refine (Has_is HHAS.out _).mono ?_; rintro e w'' ⟨rfl, hb''⟩); exact hC2.out _ _ hw' hb'')); simp only [Act.put, List.setIfInBounds_toArray, List.set_cons_succ, List.set_cons_zero]
                (iterate 16 (refine Ear.Pl.wpQ_run (by rfl) ?_; apply Exists.intro; refine ⟨fun K Q hK w' hw' => ?_, ?_⟩; (focus (obtain ⟨hc', hf'⟩ := Ear.bcell (hC1.out w' hw'); simp only [Act.put, List.setIfInBounds_toArray, List.set_cons_succ, List.set_cons_zero] at hK; go_wp2; exact hw')); simp only [Act.put, List.setIfInBounds_toArray, List.set_cons_succ, List.set_cons_zero]))
                refine Ear.Pl.wpQ_nil ?_
                intro w10 hb10
                clear hC1 hC2
                go_wp2
                go_roundw
                case rel => exact ⟨j + 1, hjt, by go_num, hB9.trans (((Below.refl _ _).drew.trans hb10).mono hsz9)⟩
                case measure => simp [intOf]; omega
            · go_wp2
              go_roundw
              case rel => exact ⟨k + 1, M, hlt, by go_num, H7.out.call hBv, HML⟩
              case measure => simp [intOf]; omega
      · have HLI : Hid (decide ((l.length : Int) ≤ 300) = false) := decide_eq_false (by omega)
        go_wp2_with (go_at_call 10; refine (light_eq HLI.out _).mono ?_; rintro e w' ⟨rfl, rfl⟩)
        go_ret
        exact ⟨rfl, hB0⟩
    · go_wp2_with (go_at_call 11; (with_reducible refine Calls.mono (alive_calls _) ?_); rintro e w11 ⟨rfl, hb11⟩)
      go_ret
      exact ⟨rfl, hB0.trans (hb11.mono hs0)⟩
theorem BookNever_calls (n self tag : Int) (ll : List Sl) (lb : Option Addr) (lc : Nat) (w : World) (hL : LiesV (slsV ll) lb w) (hS : ∀ s ∈ ll, SlOk w s) :
    Calls Try.prog 5 #[.int .i64 n, .int .i64 self, .int .i64 tag, .slice lb ll.length lc] w fun e w' => e = .returned (.bool true) ∧ Below w.heap.size w w' := by
  by_cases h : newErr n self tag = 0
  · by_cases hl : ll.length ≤ 40
    · exact Never_good n self tag ll lb lc w h hl hL hS
    · exact Never_long n self tag ll.length lb lc w h (by omega)
  · exact Never_bad n self tag ll.length lb lc w h
end Go.Proofs.Ytfkgllbooopfdaa
