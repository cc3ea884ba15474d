/-
  What the law InferQuorums comes to.
-/
import Derived.Test.YtfnolmlmmimehaaInferJ
import Derived.Test.YtfnolmlmmimehaaOpenR
import Derived.Deep.DeepCutAuto
namespace Go.Proofs.Ytfnolmlmmimehaa
set_option linter.unusedSimpArgs false
set_option linter.unusedVariables false
open Go.RowKit
attribute [local irreducible] Ear.Pl.wpQ Ear.Pa.wpQ Ear.Fe.wpQ Ear.Fa.wpQ Ear.wd Ear.one Ear.clean unionL knownT withV withE hasV whoV takeT takeRT takeRV missV newT newE readyR readyT coverTo coverR allIn setOf cntL Upto
attribute [local go_sem] eqSetV eqSet
theorem coverR_yes {n f : Int} {l : List (BitVec 128)} (h1 : 1 ≤ n) (h2 : n ≤ 100) (h3 : 0 ≤ f) (h4 : f < n) (h : allIn n l = true) : coverR n f l = (coverTo f l n.toNat, 0) := by
  unfold coverR; rw [if_neg (by omega), if_pos h]
theorem coverR_no {n f : Int} {l : List (BitVec 128)} (h1 : 1 ≤ n) (h2 : n ≤ 100) (h3 : 0 ≤ f) (h4 : f < n) (h : allIn n l = false) : coverR n f l = (0#128, 74) := by
  unfold coverR; rw [if_neg (by omega), if_neg (by rw [h]; decide)]
theorem Cover_no {n f : Int} {l : List (BitVec 128)} (h : coverR n f l = (0#128, 74)) (base : Option Addr) (cap : Nat) (w : World) (hn : l.length ≤ 100000) (hl : LiesV (setsV l) base w) :
    Calls Try.prog 27 #[.int .i64 n, .int .i64 f, .slice base l.length cap] w fun e w' => e = .returned (.tuple #[.agg #[.int .u32 0, .int .u32 0, .int .u32 0, .int .u32 0], .int .i64 74]) ∧ Below w.heap.size w w' := by
  have h := Cover_eq h base cap w hn hl
  simp only [Ear.wd_zero] at h
  exact h
/-- A tally and what lies below it. -/
theorem New_q {n f self round : Int} {own : BitVec 128} {w0 W : World} {C T : Nat} {cs : List Value} (hb : Below w0.heap.size w0 W) (hC : Ear.Blk W C T cs) (h : newE n f self round own = 0) :
    Calls Try.prog 13 #[.int .i64 n, .int .i64 f, .int .i64 self, .int .i64 round, .agg #[.int .u32 (Ear.wd (own) 0), .int .u32 (Ear.wd (own) 1), .int .u32 (Ear.wd (own) 2), .int .u32 (Ear.wd (own) 3)]] W fun e W' =>
      ∃ B, e = .returned (.tuple #[.pointer (some ⟨B, 0, none⟩), .int .i64 0]) ∧ ∃ Wb, Below w0.heap.size w0 Wb ∧ Ear.Blk Wb C T cs ∧ One (fun _ => False) Wb W' B (newT n f self round own) := by
  refine (New_one (Below.refl W.heap.size W) h).mono ?_
  rintro e W' ⟨B, he, ho, -⟩
  exact ⟨B, he, W, hb, hC, ho⟩
theorem Take_q {w0 W : World} {B : Nat} {t : Tl} {r : Rl} {from_ v1 v2 : Int} {heard : BitVec 128} (h : One (fun _ => False) w0 W B t) (hr : Rel t r) (hv : takeRV r from_ 1 heard = (v1, v2)) :
    Calls Try.prog 15 #[.pointer (some ⟨B, 0, none⟩), .int .i64 from_, .int .i64 1, .agg #[.int .u32 (Ear.wd (heard) 0), .int .u32 (Ear.wd (heard) 1), .int .u32 (Ear.wd (heard) 2), .int .u32 (Ear.wd (heard) 3)]] W fun e W' =>
      e = .returned (.tuple #[.int .i64 v1, .int .i64 v2]) ∧ One (fun _ => False) w0 W' B (takeT t from_ 1 heard) := by
  refine (Take_one h hr hv).mono ?_
  rintro e W' ⟨he, ho, -, -⟩
  exact ⟨he, ho⟩
theorem Known_q {w0 W : World} {B : Nat} {t : Tl} {r : Rl} (h : One (fun _ => False) w0 W B t) (hr : Rel t r) : Calls Try.prog 19 #[.pointer (some ⟨B, 0, none⟩)] W fun e w' => e = .returned (.agg #[.int .u32 (Ear.wd (knownT t) 0), .int .u32 (Ear.wd (knownT t) 1), .int .u32 (Ear.wd (knownT t) 2), .int .u32 (Ear.wd (knownT t) 3)]) ∧ Below W.heap.size W w' := by
  obtain ⟨base, cap, ht, -⟩ := h.ex
  refine Known_at ht ?_
  have := hr.hhs
  have h2 := hr.ok.hlen
  have h3 := hr.ok.hmax
  have h4 := hr.ok.h2
  have h5 := hr.ok.h3
  rw [this]; omega
theorem Missing_q {w0 W : World} {B : Nat} {t : Tl} {r : Rl} {n : Int} {m : BitVec 128} {c : Int} (h : One (fun _ => False) w0 W B t) (hr : Rel t r) (hm : missV n t = (m, c)) : Calls Try.prog 17 #[.int .i64 n, .pointer (some ⟨B, 0, none⟩)] W fun e w' => e = .returned (.tuple #[.agg #[.int .u32 (Ear.wd (m) 0), .int .u32 (Ear.wd (m) 1), .int .u32 (Ear.wd (m) 2), .int .u32 (Ear.wd (m) 3)], .int .i64 c]) ∧ Below W.heap.size W w' := by
  obtain ⟨base, cap, ht, -⟩ := h.ex
  refine Missing_at ht ?_ hm
  have := hr.hhs
  have h2 := hr.ok.hlen
  have h3 := hr.ok.hmax
  have h4 := hr.ok.h2
  have h5 := hr.ok.h3
  rw [this]; omega
theorem Ready_q {w0 W : World} {B : Nat} {t : Tl} {b : Bool} (h : One (fun _ => False) w0 W B t) (hb : readyT t = b) : Calls Try.prog 23 #[.pointer (some ⟨B, 0, none⟩)] W fun e w' => e = .returned (.bool b) ∧ Below W.heap.size W w' := by
  obtain ⟨base, cap, ht, -⟩ := h.ex
  subst hb
  refine (Ready_at ht).mono ?_
  rintro e w' ⟨he, rfl⟩
  exact ⟨he, Below.refl _ _⟩
theorem Subset_y {a b : BitVec 128} (h : Ear.clean (a &&& ~~~b) = 0#128) (w : World) : Calls Try.prog 29 #[.agg #[.int .u32 (Ear.wd (a) 0), .int .u32 (Ear.wd (a) 1), .int .u32 (Ear.wd (a) 2), .int .u32 (Ear.wd (a) 3)], .agg #[.int .u32 (Ear.wd (b) 0), .int .u32 (Ear.wd (b) 1), .int .u32 (Ear.wd (b) 2), .int .u32 (Ear.wd (b) 3)]] w fun e w' => e = .returned (.bool true) ∧ Below w.heap.size w w' := by
  have h2 := Subset_calls a b w
  rw [decide_eq_true h] at h2
  exact h2
set_option maxRecDepth 100000 in
set_option maxHeartbeats 4000000 in
theorem Quor_out (n f self : Int) (N M : Nat) (lb ob : Option Addr) (lc oc : Nat) (w : World) (h : n < 1 ∨ 20 < n ∨ f < 0 ∨ n ≤ f ∨ self < 0 ∨ n ≤ self ∨ (N : Int) ≠ n ∨ 100 < M) :
    Calls Try.prog 7 #[.int .i64 n, .int .i64 f, .int .i64 self, .slice lb N lc, .slice ob M oc] w fun e w' => e = .returned (.bool true) ∧ Below w.heap.size w w' := by
  have h' : n < 1 ∨ (1 ≤ n ∧ 20 < n) ∨ (1 ≤ n ∧ n ≤ 20 ∧ f < 0) ∨ (1 ≤ n ∧ n ≤ 20 ∧ 0 ≤ f ∧ n ≤ f) ∨ (1 ≤ n ∧ n ≤ 20 ∧ 0 ≤ f ∧ f < n ∧ self < 0) ∨ (1 ≤ n ∧ n ≤ 20 ∧ 0 ≤ f ∧ f < n ∧ 0 ≤ self ∧ n ≤ self) ∨ (1 ≤ n ∧ n ≤ 20 ∧ 0 ≤ f ∧ f < n ∧ 0 ≤ self ∧ self < n ∧ ((N : Int) != n) = true) ∨ (1 ≤ n ∧ n ≤ 20 ∧ 0 ≤ f ∧ f < n ∧ 0 ≤ self ∧ self < n ∧ ((N : Int) != n) = false ∧ decide ((100 : Int) < (M : Int)) = true) := by
    rw [bne_iff_ne, bne_eq_false_iff_eq, decide_eq_true_eq]; omega
  clear h
  rcases h' with h1 | ⟨h1, h2⟩ | ⟨h1, h2, h3⟩ | ⟨h1, h2, h3, h4⟩ | ⟨h1, h2, h3, h4, h5⟩ | ⟨h1, h2, h3, h4, h5, h6⟩ | ⟨h1, h2, h3, h4, h5, h6, h7⟩ | ⟨h1, h2, h3, h4, h5, h6, h7, h8⟩
  all_goals
    go_enter Try.func7, Try.ntmps7
    go_wp2_with (go_at_call 10; (with_reducible refine Calls.mono (alive14 _) ?_); rintro e w3 ⟨rfl, hb3⟩; have hB' : Below w.heap.size w w3 := Below.trans (by (repeat' (first | (with_reducible exact Below.refl _ _) | (with_reducible assumption) | (show Below 0 _ _; with_reducible refine Below.mono (by assumption) (Nat.zero_le _)) | (with_reducible refine below_setRow ?_ ?_ _) | (with_reducible refine Below.alloc ?_ ?_ _) | (with_reducible refine Below.drew ?_) | (with_reducible refine Below.setCell ?_ ?_ _) | (with_reducible refine Below.frame ?_ _) | (with_reducible exact Nat.le_refl _) | omega | (simp only [World.size_alloc, World.size_setCell, World.size_drew, setRow_size]; omega) | (simp; omega) | (simp; done)))) (hb3.mono (by (try simp only [World.size_alloc, World.size_setCell, World.size_drew, setRow_size]); omega)); clear hb3; (try clear hB hs); have hB := hB'; clear hB'; have hs := hB.size)
    go_ret
    exact ⟨rfl, hB⟩
set_option maxRecDepth 100000 in
set_option maxHeartbeats 4000000 in
theorem Quor_no (n f self : Int) (heard : List (BitVec 128)) (M : Nat) (lb ob : Option Addr) (lc oc : Nat) (w : World) (h1 : 1 ≤ n) (h2 : n ≤ 20) (h3 : 0 ≤ f) (h4 : f < n) (h5 : 0 ≤ self) (h6 : self < n) (h7 : (heard.length : Int) = n) (h8 : M ≤ 100) (hl : LiesV (setsV heard) lb w) (ha : allIn n heard = false) :
    Calls Try.prog 7 #[.int .i64 n, .int .i64 f, .int .i64 self, .slice lb heard.length lc, .slice ob M oc] w fun e w' => e = .returned (.bool true) ∧ Below w.heap.size w w' := by
  have e7 : ((heard.length : Int) != n) = false := by rw [bne_eq_false_iff_eq]; exact h7
  have e8 : decide ((100 : Int) < (M : Int)) = false := decide_eq_false (by omega)
  have HC := Lib.hid (coverR_no h1 (by omega) h3 h4 ha)
  have HL := Lib.hid hl
  clear ha hl
  go_enter Try.func7, Try.ntmps7
  go_wp2_with (first
    | (go_at_call 27; (with_reducible refine Calls.mono (Cover_no HC.out _ _ _ (by omega) HL.out) ?_); rintro e w1 ⟨rfl, hb1⟩; have hB' : Below w.heap.size w w1 := Below.trans (by (repeat' (first | (with_reducible exact Below.refl _ _) | (with_reducible assumption) | (show Below 0 _ _; with_reducible refine Below.mono (by assumption) (Nat.zero_le _)) | (with_reducible refine below_setRow ?_ ?_ _) | (with_reducible refine Below.alloc ?_ ?_ _) | (with_reducible refine Below.drew ?_) | (with_reducible refine Below.setCell ?_ ?_ _) | (with_reducible refine Below.frame ?_ _) | (with_reducible exact Nat.le_refl _) | omega | (simp only [World.size_alloc, World.size_setCell, World.size_drew, setRow_size]; omega) | (simp; omega) | (simp; done)))) (hb1.mono (by (try simp only [World.size_alloc, World.size_setCell, World.size_drew, setRow_size]); omega)); clear hb1; (try clear hB hs); have hB := hB'; clear hB'; have hs := hB.size)
    | (go_at_call 10; (with_reducible refine Calls.mono (alive14 _) ?_); rintro e w3 ⟨rfl, hb3⟩; have hB' : Below w.heap.size w w3 := Below.trans (by (repeat' (first | (with_reducible exact Below.refl _ _) | (with_reducible assumption) | (show Below 0 _ _; with_reducible refine Below.mono (by assumption) (Nat.zero_le _)) | (with_reducible refine below_setRow ?_ ?_ _) | (with_reducible refine Below.alloc ?_ ?_ _) | (with_reducible refine Below.drew ?_) | (with_reducible refine Below.setCell ?_ ?_ _) | (with_reducible refine Below.frame ?_ _) | (with_reducible exact Nat.le_refl _) | omega | (simp only [World.size_alloc, World.size_setCell, World.size_drew, setRow_size]; omega) | (simp; omega) | (simp; done)))) (hb3.mono (by (try simp only [World.size_alloc, World.size_setCell, World.size_drew, setRow_size]); omega)); clear hb3; (try clear hB hs); have hB := hB'; clear hB'; have hs := hB.size))
  go_ret
  exact ⟨rfl, hB⟩
set_option maxRecDepth 100000 in
set_option maxHeartbeats 8000000 in
theorem Quor_yes (n f self : Int) (heard : List (BitVec 128)) (order : List Int) (lb ob : Option Addr) (lc oc : Nat) (w : World) (h1 : 1 ≤ n) (h2 : n ≤ 20) (h3 : 0 ≤ f) (h4 : f < n) (h5 : 0 ≤ self) (h6 : self < n) (h7 : (heard.length : Int) = n) (h8 : order.length ≤ 100) (hl : LiesV (setsV heard) lb w) (hol : Lies order ob w) (ha : allIn n heard = true) :
    Calls Try.prog 7 #[.int .i64 n, .int .i64 f, .int .i64 self, .slice lb heard.length lc, .slice ob order.length oc] w fun e w' => e = .returned (.bool true) ∧ Below w.heap.size w w' := by
  subst h7
  have e7 : ((heard.length : Int) != (heard.length : Int)) = false := bne_self_eq_false _
  have e8 : decide ((100 : Int) < (order.length : Int)) = false := decide_eq_false (by omega)
  have HC := Lib.hid (coverR_yes h1 (by omega) h3 h4 ha)
  have HL := Lib.hid hl
  have HO := Lib.hid hol
  have HA := Lib.hid ha
  obtain ⟨q, rfl⟩ := Int.eq_ofNat_of_zero_le h5
  have hq : q < heard.length := by omega
  obtain ⟨B1, o1, rfl, -⟩ := set_cells q hq hl (Below.refl w.heap.size w) (Nat.le_refl _)
  obtain ⟨own, hown⟩ : ∃ v, heard[q] = v := ⟨_, rfl⟩
  have hwi : within own heard.length = true := by rw [← hown]; exact allIn_get ha q hq
  have hne : newE heard.length f q 1 own = 0 := by
    unfold newE; rw [if_neg (by omega), if_neg (by omega), if_neg (by omega), if_neg (by rw [hwi]; decide)]
  have HN := Lib.hid hne
  have HQ0 : Hid (Qr heard.length f heard ⟨heard.length, f, 1, [(q : Int)], [own]⟩) := Lib.hid (Qr.new hne ⟨by omega, by omega⟩ (by rw [setOf_nat _ _ hq, hown]))
  have HR0 := Lib.hid (rel_new hne)
  obtain ⟨R0, hR0⟩ : ∃ R0 : Rl, (⟨heard.length, f, 1, [(q : Int)], [own]⟩ : Rl) = R0 := ⟨_, rfl⟩
  obtain ⟨T0, hT0⟩ : ∃ T0, newT heard.length f q 1 own = T0 := ⟨_, rfl⟩
  rw [hR0] at HQ0
  rw [hR0, hT0] at HR0
  have HT0 := Lib.hid hT0
  obtain ⟨c, hc⟩ : ∃ c, coverTo f heard (heard.length : Int).toNat = c := ⟨_, rfl⟩
  rw [hc] at HC
  have HCC := Lib.hid hc
  have HOWN := Lib.hid hown
  clear hl hol ha hwi hne hR0 hT0 hc hown
  go_enter Try.func7, Try.ntmps7
  go_wp2_with (first
    | (go_at_call 27; (with_reducible refine Calls.mono (Cover_eq HC.out _ _ _ (by omega) HL.out) ?_); rintro e w1 ⟨rfl, hb1⟩; have hB' : Below w.heap.size w w1 := Below.trans (by (repeat' (first | (with_reducible exact Below.refl _ _) | (with_reducible assumption) | (show Below 0 _ _; with_reducible refine Below.mono (by assumption) (Nat.zero_le _)) | (with_reducible refine below_setRow ?_ ?_ _) | (with_reducible refine Below.alloc ?_ ?_ _) | (with_reducible refine Below.drew ?_) | (with_reducible refine Below.setCell ?_ ?_ _) | (with_reducible refine Below.frame ?_ _) | (with_reducible exact Nat.le_refl _) | omega | (simp only [World.size_alloc, World.size_setCell, World.size_drew, setRow_size]; omega) | (simp; omega) | (simp; done)))) (hb1.mono (by (try simp only [World.size_alloc, World.size_setCell, World.size_drew, setRow_size]); omega)); clear hb1; (try clear hB hs); have hB := hB'; clear hB'; have hs := hB.size; obtain ⟨B2, o2, he2, hl2, a0, a1, a2, a3⟩ := set_cells q hq HL.out hB (Nat.le_refl _); obtain ⟨rfl, rfl⟩ : B1 = B2 ∧ o1 = o2 := (by simp at he2; exact he2); clear he2; rw [HOWN.out] at a0 a1 a2 a3)
    | (go_at_call 13; (with_reducible refine Calls.mono (New_q (w0 := w) (C := w1.heap.size) (T := 26) (cs := [.int .u32 (Ear.wd (c) 0), .int .u32 (Ear.wd (c) 1), .int .u32 (Ear.wd (c) 2), .int .u32 (Ear.wd (c) 3)]) (by (repeat' (first | (with_reducible exact Below.refl _ _) | (with_reducible assumption) | (show Below 0 _ _; with_reducible refine Below.mono (by assumption) (Nat.zero_le _)) | (with_reducible refine below_setRow ?_ ?_ _) | (with_reducible refine Below.alloc ?_ ?_ _) | (with_reducible refine Below.drew ?_) | (with_reducible refine Below.setCell ?_ ?_ _) | (with_reducible refine Below.frame ?_ _) | (with_reducible exact Nat.le_refl _) | omega | (simp only [World.size_alloc, World.size_setCell, World.size_drew, setRow_size]; omega) | (simp; omega) | (simp; done)))) (by (repeat' (first | (show Ear.Blk _ _ _ _; with_reducible assumption) | (with_reducible exact Ear.Blk.new _ _ _) | (with_reducible refine Ear.Blk.new' ?_; (simp only [World.size_alloc, World.size_setCell, World.size_drew, setRow_size]; done)) | (with_reducible apply Ear.Blk.alloc) | (with_reducible apply Ear.Blk.drew) | (with_reducible apply Ear.Blk.setC) | (with_reducible apply Ear.Blk.setC' (e := by omega)) | (with_reducible apply Ear.Blk.rowC (e := by first | rfl | omega)) | (with_reducible apply Ear.Blk.otherRow) | (with_reducible apply Ear.Blk.other) | (show _ ≠ _; (try simp only [World.size_alloc, World.size_setCell, World.size_drew, setRow_size]); omega) | (show _ < _; (try simp only [World.size_alloc, World.size_setCell, World.size_drew, setRow_size]); omega)))) HN.out) ?_); rintro e w3 ⟨B, rfl, wb, hbb, hcb, hone⟩; rw [HT0.out] at hone; have H0 := Lib.hid hone; have HCB := Lib.hid hcb; clear hone hcb a0 a1 a2 a3 hl2 hB hs))
  obtain ⟨C, hC⟩ : ∃ C, w1.heap.size = C := ⟨_, rfl⟩
  rw [hC] at HCB
  rw [hC]
  clear hC
  go_loopw [15] (fun i wr => ∃ (k : Nat) (T : Tl) (r : Rl), k ≤ order.length ∧ i = .int .i64 k ∧ Hid (Qr heard.length f heard r) ∧ Hid (Rel T r) ∧ Hid (One (fun _ => False) wb wr B T)) (fun i _ => order.length - (intOf i).toNat)
  case atStart => exact ⟨0, T0, R0, by omega, rfl, HQ0, HR0, H0⟩
  case round =>
    clear H0
    obtain ⟨k, T, r, hkn, rfl, HQ, REL, H⟩ := hrel
    have hBr := hbb.trans (H.out.below.mono hbb.size)
    by_cases hlt : k < order.length
    · obtain ⟨x, hx⟩ : ∃ x, order[k] = x := ⟨_, rfl⟩
      obtain ⟨B3, o3, rfl, hl3, b0⟩ := HO.out.read hBr k hlt x hx
      have hl3' := Nat.lt_of_lt_of_le hl3 hBr.size
      have HW := Lib.hid (wrap_in k order.length hlt (by omega))
      clear hx
      by_cases hx0 : 0 ≤ x
      · by_cases hxn : x < heard.length
        · obtain ⟨p, rfl⟩ := Int.eq_ofNat_of_zero_le hx0
          have hp : p < heard.length := by omega
          obtain ⟨B2, o2, he2, hl2, a0, a1, a2, a3⟩ := set_cells p hp HL.out hBr (Nat.le_refl _)
          obtain ⟨rfl, rfl⟩ : B1 = B2 ∧ o1 = o2 := (by simp at he2; exact he2)
          have HQ2 := Lib.hid (HQ.out.take p hp)
          have REL2 := Lib.hid (REL.out.take p 1 heard[p])
          obtain ⟨v, hv⟩ : ∃ v, heard[p] = v := ⟨_, rfl⟩
          rw [hv] at a0 a1 a2 a3 HQ2 REL2
          obtain ⟨⟨v1, v2⟩, hv2⟩ : ∃ u, takeRV r p 1 v = u := ⟨_, rfl⟩
          have HV := Lib.hid hv2
          clear he2 hv hv2
          go_wp2
          refine Ear.Pl.C2.wp_region_qrb 12 #[true, true, true, true, true, true, true, true, true, true, true, true, false] (by kernel_rfl) (by kernel_rfl) (fun C hC1 hC2 => ?_); simp only [List.take_succ_cons, List.take_zero, List.drop_succ_cons, List.drop_zero]
          (iterate 12 (refine Ear.Pl.wpQ_run (by rfl) ?_; apply Exists.intro; refine ⟨fun K Q hK w' hw' => ?_, ?_⟩; (focus (obtain ⟨hc', hf'⟩ := Ear.bcell (hC1.out w' hw'); simp only [Act.put, List.setIfInBounds_toArray, List.set_cons_succ, List.set_cons_zero] at hK; go_wp2; exact hw')); simp only [Act.put, List.setIfInBounds_toArray, List.set_cons_succ, List.set_cons_zero]))
          refine Ear.Pl.wpQ_nil ?_
          intro w5 hb5
          clear hC1 hC2
          have H5 := Lib.hid (H.out.call (((Below.refl _ _).drew).trans hb5))
          clear hb5
          refine wpAny_ready (rs := [12]) (by kernel_rfl) (by simp) ?_; refine AllReady.cons rfl (fun K hK => ?_) ?_; (focus ((go_simp); (first | (refine hK _ _ ?_; clear hK K) | (go_wp2_with ((go_at_call 15; (with_reducible refine Calls.mono (Take_q H5.out REL.out HV.out) ?_); rintro e w6 ⟨rfl, hT6⟩; have HT6 := Lib.hid hT6; clear hT6)); first | (show wpAny _ _ _ _ _ _ _ _; skip) | (refine hK _ _ ?_); (try clear hK K))); refine wpAny_done (by kernel_rfl) ?_ _; (try dsimp only [Act.put, List.setIfInBounds_toArray, List.set_cons_succ, List.set_cons_zero]); go_wp2; go_roundw; (case rel => exact ⟨k + 1, _, _, hlt, by go_num, HQ2, REL2, HT6⟩); (case measure => simp [intOf]; omega))); exact AllReady.nil
        · have hxn' : (heard.length : Int) ≤ x := by omega
          go_wp2
          go_roundw
          case rel => exact ⟨k + 1, _, _, hlt, by go_num, HQ, REL, H⟩
          case measure => simp [intOf]; omega
      · have hx0' : x < 0 := by omega
        go_wp2
        go_roundw
        case rel => exact ⟨k + 1, _, _, hlt, by go_num, HQ, REL, H⟩
        case measure => simp [intOf]; omega
    · have hkl : k = order.length := by omega
      subst hkl
      clear hBr
      have HU := Lib.hid (Upto.zero r)
      go_wp2
      go_loopw [16] (fun i wq => ∃ (k : Nat) (T : Tl) (r : Rl), k ≤ heard.length ∧ i = .int .i64 k ∧ Hid (Qr heard.length f heard r) ∧ Hid (Rel T r) ∧ Hid (Upto r k) ∧ Hid (One (fun _ => False) wb wq B T)) (fun i _ => heard.length - (intOf i).toNat)
      case atStart => exact ⟨0, T, r, by omega, rfl, HQ, REL, HU, H⟩
      case round =>
        clear H HQ REL HU HQ0 HR0
        rename_i T_ r_ _ _ _ _ _
        obtain ⟨k, T, r, hkn, rfl, HQ, REL, HU, H⟩ := hrel
        have hBr := hbb.trans (H.out.below.mono hbb.size)
        by_cases hlt : k < heard.length
        · obtain ⟨B2, o2, he2, hl2, a0, a1, a2, a3⟩ := set_cells k hlt HL.out hBr (Nat.le_refl _)
          obtain ⟨rfl, rfl⟩ : B1 = B2 ∧ o1 = o2 := (by simp at he2; exact he2)
          have HW := Lib.hid (wrap_in k heard.length hlt (by omega))
          have HQ2 := Lib.hid (HQ.out.take k hlt)
          have REL2 := Lib.hid (REL.out.take k 1 heard[k])
          have HU2 := Lib.hid (Upto.succ HQ.out rfl HA.out k hlt HU.out)
          obtain ⟨v, hv⟩ : ∃ v, heard[k] = v := ⟨_, rfl⟩
          rw [hv] at a0 a1 a2 a3 HQ2 REL2 HU2
          obtain ⟨⟨v1, v2⟩, hv2⟩ : ∃ u, takeRV r k 1 v = u := ⟨_, rfl⟩
          have HV := Lib.hid hv2
          clear he2 hv hv2
          go_wp2_with (go_at_call 15; (with_reducible refine Calls.mono (Take_q H.out REL.out HV.out) ?_); rintro e w6 ⟨rfl, hT6⟩; have HT6 := Lib.hid hT6; clear hT6)
          go_roundw
          case rel => exact ⟨k + 1, _, _, hlt, by go_num, HQ2, REL2, HU2, HT6⟩
          case measure => simp [intOf]; omega
        · have hkl : k = heard.length := by omega
          subst hkl
          have hready : readyR r = true := HQ.out.ready h3 (by rw [Int.toNat_natCast]; exact HU.out)
          obtain ⟨hsub, hmeet⟩ := HQ.out.all REL.out rfl hready
          rw [HCC.out] at hsub hmeet
          have HSUB := Lib.hid hsub
          have HMEET := Lib.hid hmeet
          have HRD := Lib.hid (show readyT T = true from by rw [REL.out.ready]; exact hready)
          have HMV := Lib.hid (show missV (heard.length : Int) T = (Ear.clean (Ear.full (heard.length : Int).toNat &&& ~~~(knownT T)), 0) from by
            unfold missV; rw [if_neg (by simp; omega), if_neg (by rw [HRD.out]; decide)])
          have HZ := Lib.hid (show Ear.cnt128 (Ear.clean 0#128) = 0 from by unfold Ear.clean; decide +kernel)
          have hcb := HCB.out.below H.out.below HCB.out.lt
          have hcb_l := hcb.lt
          have hcb_c := hcb.cell
          have hcb_f := hcb.frozen
          have hB := hBr
          have hs := hB.size
          clear hready hsub hmeet hBr
          go_wp2_with (go_at_call 17; (with_reducible refine Calls.mono (Missing_q H.out REL.out HMV.out) ?_); rintro e w9 ⟨rfl, hb9⟩; have H9 := Lib.hid (H.out.call hb9); have hB' : Below w.heap.size w w9 := Below.trans (by (repeat' (first | (with_reducible exact Below.refl _ _) | (with_reducible assumption) | (show Below 0 _ _; with_reducible refine Below.mono (by assumption) (Nat.zero_le _)) | (with_reducible refine below_setRow ?_ ?_ _) | (with_reducible refine Below.alloc ?_ ?_ _) | (with_reducible refine Below.drew ?_) | (with_reducible refine Below.setCell ?_ ?_ _) | (with_reducible refine Below.frame ?_ _) | (with_reducible exact Nat.le_refl _) | omega | (simp only [World.size_alloc, World.size_setCell, World.size_drew, setRow_size]; omega) | (simp; omega) | (simp; done)))) (hb9.mono (by (try simp only [World.size_alloc, World.size_setCell, World.size_drew, setRow_size]); omega)); have hcb' := (show Ear.Blk w9 (C) _ _ from by (repeat' (first | (show Ear.Blk _ _ _ _; with_reducible assumption) | (with_reducible exact Ear.Blk.new _ _ _) | (with_reducible refine Ear.Blk.new' ?_; (simp only [World.size_alloc, World.size_setCell, World.size_drew, setRow_size]; done)) | (with_reducible apply Ear.Blk.alloc) | (with_reducible apply Ear.Blk.drew) | (with_reducible apply Ear.Blk.setC) | (with_reducible apply Ear.Blk.setC' (e := by omega)) | (with_reducible apply Ear.Blk.rowC (e := by first | rfl | omega)) | (with_reducible apply Ear.Blk.otherRow) | (with_reducible apply Ear.Blk.other) | (with_reducible apply Ear.Blk.below (hb := hb9)) | (show _ ≠ _; (try simp only [World.size_alloc, World.size_setCell, World.size_drew, setRow_size]); omega) | (show _ < _; (try simp only [World.size_alloc, World.size_setCell, World.size_drew, setRow_size]); omega)))); clear hb9; (try clear hcb_l); (try clear hcb_c); (try clear hcb_f); (try clear hcb); have hcb := hcb'; clear hcb'; (try simp only [List.set_cons_zero, List.set_cons_succ] at hcb); have hcb_l := hcb.lt; have hcb_c := hcb.cell; have hcb_f := hcb.frozen; (try clear hB hs); have hB := hB'; clear hB'; have hs := hB.size)
          refine Ear.wp_world (Ear.AndW (Ear.Sh w.heap.size w [(w9.heap.size, _, _), (C, _, _)]) (fun W => Below w9.heap.size w9 W)) ⟨(.cons (by (repeat' (first | (show Ear.Blk _ _ _ _; with_reducible assumption) | (with_reducible exact Ear.Blk.new _ _ _) | (with_reducible refine Ear.Blk.new' ?_; (simp only [World.size_alloc, World.size_setCell, World.size_drew, setRow_size]; done)) | (with_reducible apply Ear.Blk.alloc) | (with_reducible apply Ear.Blk.drew) | (with_reducible apply Ear.Blk.setC) | (with_reducible apply Ear.Blk.setC' (e := by omega)) | (with_reducible apply Ear.Blk.rowC (e := by first | rfl | omega)) | (with_reducible apply Ear.Blk.otherRow) | (with_reducible apply Ear.Blk.other) | (show _ ≠ _; (try simp only [World.size_alloc, World.size_setCell, World.size_drew, setRow_size]); omega) | (show _ < _; (try simp only [World.size_alloc, World.size_setCell, World.size_drew, setRow_size]); omega)))) (.cons (by (repeat' (first | (show Ear.Blk _ _ _ _; with_reducible assumption) | (with_reducible exact Ear.Blk.new _ _ _) | (with_reducible refine Ear.Blk.new' ?_; (simp only [World.size_alloc, World.size_setCell, World.size_drew, setRow_size]; done)) | (with_reducible apply Ear.Blk.alloc) | (with_reducible apply Ear.Blk.drew) | (with_reducible apply Ear.Blk.setC) | (with_reducible apply Ear.Blk.setC' (e := by omega)) | (with_reducible apply Ear.Blk.rowC (e := by first | rfl | omega)) | (with_reducible apply Ear.Blk.otherRow) | (with_reducible apply Ear.Blk.other) | (show _ ≠ _; (try simp only [World.size_alloc, World.size_setCell, World.size_drew, setRow_size]); omega) | (show _ < _; (try simp only [World.size_alloc, World.size_setCell, World.size_drew, setRow_size]); omega)))) (.nil (by (repeat' (first | (with_reducible exact Below.refl _ _) | (with_reducible assumption) | (show Below 0 _ _; with_reducible refine Below.mono (by assumption) (Nat.zero_le _)) | (with_reducible refine below_setRow ?_ ?_ _) | (with_reducible refine Below.alloc ?_ ?_ _) | (with_reducible refine Below.drew ?_) | (with_reducible refine Below.setCell ?_ ?_ _) | (with_reducible refine Below.frame ?_ _) | (with_reducible exact Nat.le_refl _) | omega | (simp only [World.size_alloc, World.size_setCell, World.size_drew, setRow_size]; omega) | (simp; omega) | (simp; done))))))), (show Below w9.heap.size w9 _ from by (repeat' (first | (with_reducible exact Below.refl _ _) | (with_reducible assumption) | (show Below 0 _ _; with_reducible refine Below.mono (by assumption) (Nat.zero_le _)) | (with_reducible refine below_setRow ?_ ?_ _) | (with_reducible refine Below.alloc ?_ ?_ _) | (with_reducible refine Below.drew ?_) | (with_reducible refine Below.setCell ?_ ?_ _) | (with_reducible refine Below.frame ?_ _) | (with_reducible exact Nat.le_refl _) | omega | (simp only [World.size_alloc, World.size_setCell, World.size_drew, setRow_size]; omega) | (simp; omega) | (simp; done))))⟩ ?_; (try clear hm__l); (try clear hm__c); (try clear hm__f); (try clear hm_); (try clear hcb_l); (try clear hcb_c); (try clear hcb_f); (try clear hcb); (try clear H10); (try clear hB hs); rintro w10 ⟨⟨hm_, hcb, hB⟩, H10⟩; replace hB : Below w.heap.size w w10 := hB; have hs := hB.size; (try simp only [List.set_cons_zero, List.set_cons_succ] at hm_); (try simp only [List.set_cons_zero, List.set_cons_succ] at hcb); have hm__l := hm_.lt; have hm__c := hm_.cell; have hm__f := hm_.frozen; have hcb_l := hcb.lt; have hcb_c := hcb.cell; have hcb_f := hcb.frozen
          have H11 := Lib.hid (H9.out.call H10)
          clear H10 H9 H
          refine Ear.Pl.wp_region_qb 22 (by kernel_rfl) (by kernel_rfl) (fun C hC1 hC2 => ?_); simp only [List.take_succ_cons, List.take_zero, List.drop_succ_cons, List.drop_zero]
          refine Ear.Pl.wpQ_run (by rfl) ?_; apply Exists.intro; refine ⟨fun K Q hK w' hw' => ?_, ?_⟩; (focus (simp only [Act.put, List.setIfInBounds_toArray, List.set_cons_succ, List.set_cons_zero] at hK; go_wp2_with (refine (alive14 _).mono ?_; rintro e w'' ⟨rfl, hb''⟩); exact hC2.out _ _ hw' hb'')); simp only [Act.put, List.setIfInBounds_toArray, List.set_cons_succ, List.set_cons_zero]
          (iterate 2 (refine Ear.Pl.wpQ_run (by rfl) ?_; apply Exists.intro; refine ⟨fun K Q hK w' hw' => ?_, ?_⟩; (focus (obtain ⟨hc', hf'⟩ := Ear.bcell (hC1.out w' hw'); simp only [Act.put, List.setIfInBounds_toArray, List.set_cons_succ, List.set_cons_zero] at hK; go_wp2; exact hw')); simp only [Act.put, List.setIfInBounds_toArray, List.set_cons_succ, List.set_cons_zero]))
          refine Ear.Pl.wpQ_run (by rfl) ?_; apply Exists.intro; refine ⟨fun K Q hK w' hw' => ?_, ?_⟩; (focus (simp only [Act.put, List.setIfInBounds_toArray, List.set_cons_succ, List.set_cons_zero] at hK; go_wp2_with (refine (Ready_q (H11.out.call (((Below.refl _ _).drew).trans (hC1.out w' hw'))) HRD.out).mono ?_; rintro e w'' ⟨rfl, hb''⟩); exact hC2.out _ _ hw' hb'')); simp only [Act.put, List.setIfInBounds_toArray, List.set_cons_succ, List.set_cons_zero]
          (iterate 8 (refine Ear.Pl.wpQ_run (by rfl) ?_; apply Exists.intro; refine ⟨fun K Q hK w' hw' => ?_, ?_⟩; (focus (obtain ⟨hc', hf'⟩ := Ear.bcell (hC1.out w' hw'); simp only [Act.put, List.setIfInBounds_toArray, List.set_cons_succ, List.set_cons_zero] at hK; go_wp2; exact hw')); simp only [Act.put, List.setIfInBounds_toArray, List.set_cons_succ, List.set_cons_zero]))
          refine Ear.Pl.wpQ_run (by rfl) ?_; apply Exists.intro; refine ⟨fun K Q hK w' hw' => ?_, ?_⟩; (focus (simp only [Act.put, List.setIfInBounds_toArray, List.set_cons_succ, List.set_cons_zero] at hK; go_wp2_with (refine (Meet_eq HMEET.out _).mono ?_; rintro e w'' ⟨rfl, hb''⟩); exact hC2.out _ _ hw' hb'')); simp only [Act.put, List.setIfInBounds_toArray, List.set_cons_succ, List.set_cons_zero]
          refine Ear.Pl.wpQ_run (by rfl) ?_; apply Exists.intro; refine ⟨fun K Q hK w' hw' => ?_, ?_⟩; (focus (simp only [Act.put, List.setIfInBounds_toArray, List.set_cons_succ, List.set_cons_zero] at hK; go_wp2_with (refine (Count_eq (a := 0#128) (n := 0) HZ.out _).mono ?_; rintro e w'' ⟨rfl, hb''⟩); exact hC2.out _ _ hw' hb'')); simp only [Act.put, List.setIfInBounds_toArray, List.set_cons_succ, List.set_cons_zero]
          (iterate 5 (refine Ear.Pl.wpQ_run (by rfl) ?_; apply Exists.intro; refine ⟨fun K Q hK w' hw' => ?_, ?_⟩; (focus (obtain ⟨hc', hf'⟩ := Ear.bcell (hC1.out w' hw'); simp only [Act.put, List.setIfInBounds_toArray, List.set_cons_succ, List.set_cons_zero] at hK; go_wp2; exact hw')); simp only [Act.put, List.setIfInBounds_toArray, List.set_cons_succ, List.set_cons_zero]))
          refine Ear.Pl.wpQ_run (by rfl) ?_; apply Exists.intro; refine ⟨fun K Q hK w' hw' => ?_, ?_⟩; (focus (simp only [Act.put, List.setIfInBounds_toArray, List.set_cons_succ, List.set_cons_zero] at hK; go_wp2_with (refine (Known_q (H11.out.call (((Below.refl _ _).drew).trans (hC1.out w' hw'))) REL.out).mono ?_; rintro e w'' ⟨rfl, hb''⟩); exact hC2.out _ _ hw' hb'')); simp only [Act.put, List.setIfInBounds_toArray, List.set_cons_succ, List.set_cons_zero]
          refine Ear.Pl.wpQ_run (by rfl) ?_; apply Exists.intro; refine ⟨fun K Q hK w' hw' => ?_, ?_⟩; (focus (simp only [Act.put, List.setIfInBounds_toArray, List.set_cons_succ, List.set_cons_zero] at hK; go_wp2_with (refine (Subset_y HSUB.out _).mono ?_; rintro e w'' ⟨rfl, hb''⟩); exact hC2.out _ _ hw' hb'')); simp only [Act.put, List.setIfInBounds_toArray, List.set_cons_succ, List.set_cons_zero]
          (iterate 1 (refine Ear.Pl.wpQ_run (by rfl) ?_; apply Exists.intro; refine ⟨fun K Q hK w' hw' => ?_, ?_⟩; (focus (obtain ⟨hc', hf'⟩ := Ear.bcell (hC1.out w' hw'); simp only [Act.put, List.setIfInBounds_toArray, List.set_cons_succ, List.set_cons_zero] at hK; go_wp2; exact hw')); simp only [Act.put, List.setIfInBounds_toArray, List.set_cons_succ, List.set_cons_zero]))
          refine Ear.Pl.wpQ_nil ?_
          intro w12 hb12
          clear hC1 hC2
          have hB' : Below w.heap.size w w12 := Below.trans (by (repeat' (first | (with_reducible exact Below.refl _ _) | (with_reducible assumption) | (show Below 0 _ _; with_reducible refine Below.mono (by assumption) (Nat.zero_le _)) | (with_reducible refine below_setRow ?_ ?_ _) | (with_reducible refine Below.alloc ?_ ?_ _) | (with_reducible refine Below.drew ?_) | (with_reducible refine Below.setCell ?_ ?_ _) | (with_reducible refine Below.frame ?_ _) | (with_reducible exact Nat.le_refl _) | omega | (simp only [World.size_alloc, World.size_setCell, World.size_drew, setRow_size]; omega) | (simp; omega) | (simp; done)))) (hb12.mono (by (try simp only [World.size_alloc, World.size_setCell, World.size_drew, setRow_size]); omega)); clear hb12; (try clear hB hs); have hB := hB'; clear hB'; have hs := hB.size
          go_wp2
          go_ret
          exact ⟨rfl, hB⟩
theorem InferQuorums_calls (n f self : Int) (heard : List (BitVec 128)) (order : List Int) (lb ob : Option Addr) (lc oc : Nat) (w : World) (hl : LiesV (setsV heard) lb w) (hol : Lies order ob w) :
    Calls Try.prog 7 #[.int .i64 n, .int .i64 f, .int .i64 self, .slice lb heard.length lc, .slice ob order.length oc] w fun e w' => e = .returned (.bool true) ∧ Below w.heap.size w w' := by
  by_cases h : n < 1 ∨ 20 < n ∨ f < 0 ∨ n ≤ f ∨ self < 0 ∨ n ≤ self ∨ (heard.length : Int) ≠ n ∨ 100 < order.length
  · exact Quor_out n f self heard.length order.length lb ob lc oc w h
  · obtain ⟨h1, h2, h3, h4, h5, h6, h7, h8⟩ : 1 ≤ n ∧ n ≤ 20 ∧ 0 ≤ f ∧ f < n ∧ 0 ≤ self ∧ self < n ∧ (heard.length : Int) = n ∧ order.length ≤ 100 := by omega
    cases ha : allIn n heard with
    | false => exact Quor_no n f self heard order.length lb ob lc oc w h1 h2 h3 h4 h5 h6 h7 h8 hl ha
    | true => exact Quor_yes n f self heard order lb ob lc oc w h1 h2 h3 h4 h5 h6 h7 h8 hl hol ha
end Go.Proofs.Ytfnolmlmmimehaa
