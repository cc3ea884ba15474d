/-
  What the small calls on notices and books come to.
  What Same, Take and New of books come to.
-/
import Derived.Test.YtfnolmlmmimehaaBookC
import Derived.Test.YtfnolmlmmimehaaRest
import Derived.Laws.MakeOwn
section
namespace Go.Proofs.Ytfnolmlmmimehaa
set_option linter.unusedSimpArgs false
set_option linter.unusedVariables false
open Go.RowKit
set_option maxHeartbeats 1000000 in
theorem isTag_eq {x : Nt} {b : Bool} (h : tagOk x = b) (w : World) : Calls Try.prog 85 #[.int .i64 x.tag] w fun e w' => e = .returned (.bool b) ∧ w' = w := by
  subst h
  unfold tagOk
  by_cases h : 0 ≤ x.tag
  · have hd : decide (0 ≤ x.tag) = true := decide_eq_true h
    go_enter Try.func85, Try.ntmps85
    go_wp2
    go_ret
    exact ⟨by first | rfl | (rw [hd]; rfl), rfl⟩
  · have hd : decide (0 ≤ x.tag) = false := decide_eq_false h
    go_enter Try.func85, Try.ntmps85
    go_wp2
    go_ret
    exact ⟨by first | rfl | (rw [hd]; rfl), rfl⟩
set_option maxHeartbeats 1000000 in
theorem isKind_eq {x : Nt} {b : Bool} (h : kindOk x = b) (w : World) : Calls Try.prog 86 #[.int .i64 x.kind] w fun e w' => e = .returned (.bool b) ∧ w' = w := by
  subst h
  unfold kindOk
  by_cases h : x.kind = 1
  · have hd : (x.kind == 1) = true := beq_iff_eq.2 h
    go_enter Try.func86, Try.ntmps86
    go_wp2
    go_ret
    exact ⟨by first | rfl | (rw [hd]; rfl), rfl⟩
  · have hd : (x.kind == 1) = false := beq_eq_false_iff_ne.2 h
    go_enter Try.func86, Try.ntmps86
    go_wp2
    go_ret
    exact ⟨by first | rfl | (rw [hd]; rfl), rfl⟩
set_option maxRecDepth 100000 in
set_option maxHeartbeats 2000000 in
theorem Valid_eq {n : Int} {x : Nt} {b : Bool} (h : validN n x = b) (w : World) : Calls Try.prog 69 #[.int .i64 n, .agg #[.int .i64 (x).of_, .int .i64 (x).tag, .int .i64 (x).kind]] w fun e w' => e = .returned (.bool b) ∧ Below w.heap.size w w' := by
  have HV0 := Lib.hid h
  obtain ⟨bt, hbt⟩ : ∃ bt, tagOk x = bt := ⟨_, rfl⟩
  obtain ⟨bk, hbk⟩ : ∃ bk, kindOk x = bk := ⟨_, rfl⟩
  have HT := Lib.hid hbt
  have HK := Lib.hid hbk
  have hq : b = (decide (1 ≤ n) && decide (n ≤ 100) && decide (0 ≤ x.of_) && decide (x.of_ < n) && bt && bk) := by rw [← h]; unfold validN; rw [hbt, hbk]
  have HV := Lib.hid hq
  clear h hq HV0 hbt hbk
  by_cases c1 : 1 ≤ n
  · by_cases c2 : n ≤ 100
    · by_cases c3 : 0 ≤ x.of_
      · by_cases c4 : x.of_ < n
        · have d1 : decide (1 ≤ n) = true := decide_eq_true c1
          have d2 : decide (n ≤ 100) = true := decide_eq_true c2
          have d3 : decide (0 ≤ x.of_) = true := decide_eq_true c3
          have d4 : decide (x.of_ < n) = true := decide_eq_true c4
          cases bt <;> cases bk
          all_goals
            go_enter Try.func69, Try.ntmps69
            go_wp2_with (first | (go_at_call 85; (with_reducible refine Calls.mono (isTag_eq HT.out _) ?_); rintro e w' ⟨rfl, rfl⟩) | (go_at_call 86; (with_reducible refine Calls.mono (isKind_eq HK.out _) ?_); rintro e w' ⟨rfl, rfl⟩))
            go_ret
            exact ⟨by rw [HV.out, d1, d2, d3, d4]; rfl, by go_grown⟩
        · have d1 : decide (x.of_ < n) = false := decide_eq_false c4
          go_enter Try.func69, Try.ntmps69
          go_wp2
          go_ret
          exact ⟨by rw [HV.out, d1]; simp, by go_grown⟩
      · have d1 : decide (0 ≤ x.of_) = false := decide_eq_false c3
        go_enter Try.func69, Try.ntmps69
        go_wp2
        go_ret
        exact ⟨by rw [HV.out, d1]; simp, by go_grown⟩
    · have d1 : decide (n ≤ 100) = false := decide_eq_false c2
      go_enter Try.func69, Try.ntmps69
      go_wp2
      go_ret
      exact ⟨by rw [HV.out, d1]; simp, by go_grown⟩
  · have d1 : decide (1 ≤ n) = false := decide_eq_false c1
    go_enter Try.func69, Try.ntmps69
    go_wp2
    go_ret
    exact ⟨by rw [HV.out, d1]; simp, by go_grown⟩
set_option maxRecDepth 100000 in
set_option maxHeartbeats 2000000 in
theorem Rank_eq {x : Nt} {r : Int} (h : rankN x = r) (w : World) : Calls Try.prog 88 #[.agg #[.int .i64 (x).of_, .int .i64 (x).tag, .int .i64 (x).kind]] w fun e w' => e = .returned (.int .i64 r) ∧ Below w.heap.size w w' := by
  subst h
  obtain ⟨bt, hbt⟩ : ∃ bt, tagOk x = bt := ⟨_, rfl⟩
  have HT := Lib.hid hbt
  cases bt with
  | false =>
    have hr : rankN x = -1 := by unfold rankN; rw [if_neg (by rw [hbt]; decide)]
    have HR := Lib.hid hr
    clear hbt hr
    go_enter Try.func88, Try.ntmps88
    go_wp2_with (go_at_call 85; (with_reducible refine Calls.mono (isTag_eq HT.out _) ?_); rintro e w' ⟨rfl, rfl⟩)
    go_ret
    exact ⟨by rw [HR.out]; rfl, by go_grown⟩
  | true =>
    have hb := hbt
    unfold tagOk at hb
    simp only [Bool.and_eq_true, decide_eq_true_eq] at hb
    obtain ⟨t1, t2⟩ := hb
    by_cases k1 : x.kind = 1
    · have hr : rankN x = 2 * x.tag := by unfold rankN; rw [if_pos hbt, if_pos k1]
      have HR := Lib.hid hr
      have e1 : (x.kind == 1) = true := beq_iff_eq.2 k1
      clear hbt hr
      go_enter Try.func88, Try.ntmps88
      go_wp2_with (go_at_call 85; (with_reducible refine Calls.mono (isTag_eq HT.out _) ?_); rintro e w' ⟨rfl, rfl⟩)
      go_ret
      exact ⟨by rw [HR.out]; rfl, by go_grown⟩
    · have e1 : (x.kind == 1) = false := beq_eq_false_iff_ne.2 k1
      by_cases k2 : x.kind = 2
      · have hr : rankN x = 2 * x.tag + 1 := by unfold rankN; rw [if_pos hbt, if_neg k1, if_pos k2]
        have HR := Lib.hid hr
        have e2 : (x.kind == 2) = true := beq_iff_eq.2 k2
        clear hbt hr
        go_enter Try.func88, Try.ntmps88
        go_wp2_with (go_at_call 85; (with_reducible refine Calls.mono (isTag_eq HT.out _) ?_); rintro e w' ⟨rfl, rfl⟩)
        go_ret
        exact ⟨by rw [HR.out]; rfl, by go_grown⟩
      · have hr : rankN x = -1 := by unfold rankN; rw [if_pos hbt, if_neg k1, if_neg k2]
        have HR := Lib.hid hr
        have e2 : (x.kind == 2) = false := beq_eq_false_iff_ne.2 k2
        clear hbt hr
        go_enter Try.func88, Try.ntmps88
        go_wp2_with (go_at_call 85; (with_reducible refine Calls.mono (isTag_eq HT.out _) ?_); rintro e w' ⟨rfl, rfl⟩)
        go_ret
        exact ⟨by rw [HR.out]; rfl, by go_grown⟩
set_option maxRecDepth 100000 in
set_option maxHeartbeats 2000000 in
theorem Beats_eq {a b : Nt} {r : Bool} (h : beatsN a b = r) (w : World) : Calls Try.prog 72 #[.agg #[.int .i64 (a).of_, .int .i64 (a).tag, .int .i64 (a).kind], .agg #[.int .i64 (b).of_, .int .i64 (b).tag, .int .i64 (b).kind]] w fun e w' => e = .returned (.bool r) ∧ Below w.heap.size w w' := by
  subst h
  obtain ⟨ra, hra⟩ : ∃ ra, rankN a = ra := ⟨_, rfl⟩
  obtain ⟨rb, hrb⟩ : ∃ rb, rankN b = rb := ⟨_, rfl⟩
  have HA := Lib.hid hra
  have HB := Lib.hid hrb
  have hq : beatsN a b = (decide (a.of_ = b.of_) && decide (0 ≤ rb) && decide (rb < ra)) := by unfold beatsN; rw [hra, hrb]
  have HQ := Lib.hid hq
  clear hq hra hrb
  by_cases c1 : a.of_ = b.of_
  · have e1 : (a.of_ == b.of_) = true := beq_iff_eq.2 c1
    have d1 : decide (a.of_ = b.of_) = true := decide_eq_true c1
    have D1 := Lib.hid d1
    clear c1 d1
    by_cases c2 : 0 ≤ rb
    · have d2 : decide (0 ≤ rb) = true := decide_eq_true c2
      go_enter Try.func72, Try.ntmps72
      go_wp2
      refine Ear.Pl.wp_region_qb 17 (by kernel_rfl) (by kernel_rfl) (fun C hC1 hC2 => ?_); simp only [List.take_succ_cons, List.take_zero, List.drop_succ_cons, List.drop_zero]
      (iterate 7 (refine Ear.Pl.wpQ_run (by rfl) ?_; apply Exists.intro; refine ⟨fun K Q hK w' hw' => ?_, ?_⟩; (focus (obtain ⟨hc', hf'⟩ := Ear.bcell (hC1.out w' hw'); simp only [Act.put, List.setIfInBounds_toArray, List.set_cons_succ, List.set_cons_zero] at hK; go_wp2; exact hw')); simp only [Act.put, List.setIfInBounds_toArray, List.set_cons_succ, List.set_cons_zero]))
      refine Ear.Pl.wpQ_run (by rfl) ?_; apply Exists.intro; refine ⟨fun K Q hK w' hw' => ?_, ?_⟩; (focus (simp only [Act.put, List.setIfInBounds_toArray, List.set_cons_succ, List.set_cons_zero] at hK; go_wp2_with (refine (Rank_eq HB.out _).mono ?_; rintro e w'' ⟨rfl, hb''⟩); exact hC2.out _ _ hw' hb'')); simp only [Act.put, List.setIfInBounds_toArray, List.set_cons_succ, List.set_cons_zero]
      (iterate 4 (refine Ear.Pl.wpQ_run (by rfl) ?_; apply Exists.intro; refine ⟨fun K Q hK w' hw' => ?_, ?_⟩; (focus (obtain ⟨hc', hf'⟩ := Ear.bcell (hC1.out w' hw'); simp only [Act.put, List.setIfInBounds_toArray, List.set_cons_succ, List.set_cons_zero] at hK; go_wp2; exact hw')); simp only [Act.put, List.setIfInBounds_toArray, List.set_cons_succ, List.set_cons_zero]))
      refine Ear.Pl.wpQ_run (by rfl) ?_; apply Exists.intro; refine ⟨fun K Q hK w' hw' => ?_, ?_⟩; (focus (simp only [Act.put, List.setIfInBounds_toArray, List.set_cons_succ, List.set_cons_zero] at hK; go_wp2_with (refine (Rank_eq HA.out _).mono ?_; rintro e w'' ⟨rfl, hb''⟩); exact hC2.out _ _ hw' hb'')); simp only [Act.put, List.setIfInBounds_toArray, List.set_cons_succ, List.set_cons_zero]
      (iterate 1 (refine Ear.Pl.wpQ_run (by rfl) ?_; apply Exists.intro; refine ⟨fun K Q hK w' hw' => ?_, ?_⟩; (focus (obtain ⟨hc', hf'⟩ := Ear.bcell (hC1.out w' hw'); simp only [Act.put, List.setIfInBounds_toArray, List.set_cons_succ, List.set_cons_zero] at hK; go_wp2; exact hw')); simp only [Act.put, List.setIfInBounds_toArray, List.set_cons_succ, List.set_cons_zero]))
      refine Ear.Pl.wpQ_run (by rfl) ?_; apply Exists.intro; refine ⟨fun K Q hK w' hw' => ?_, ?_⟩; (focus (simp only [Act.put, List.setIfInBounds_toArray, List.set_cons_succ, List.set_cons_zero] at hK; go_wp2_with (refine (Rank_eq HB.out _).mono ?_; rintro e w'' ⟨rfl, hb''⟩); exact hC2.out _ _ hw' hb'')); simp only [Act.put, List.setIfInBounds_toArray, List.set_cons_succ, List.set_cons_zero]
      (iterate 2 (refine Ear.Pl.wpQ_run (by rfl) ?_; apply Exists.intro; refine ⟨fun K Q hK w' hw' => ?_, ?_⟩; (focus (obtain ⟨hc', hf'⟩ := Ear.bcell (hC1.out w' hw'); simp only [Act.put, List.setIfInBounds_toArray, List.set_cons_succ, List.set_cons_zero] at hK; go_wp2; exact hw')); simp only [Act.put, List.setIfInBounds_toArray, List.set_cons_succ, List.set_cons_zero]))
      refine Ear.Pl.wpQ_nil ?_
      intro w3 hb3
      clear hC1 hC2
      have hB' : Below w.heap.size w w3 := Below.trans (by (repeat' (first | (with_reducible exact Below.refl _ _) | (with_reducible assumption) | (show Below 0 _ _; with_reducible refine Below.mono (by assumption) (Nat.zero_le _)) | (with_reducible refine below_setRow ?_ ?_ _) | (with_reducible refine Below.alloc ?_ ?_ _) | (with_reducible refine Below.drew ?_) | (with_reducible refine Below.setCell ?_ ?_ _) | (with_reducible refine Below.frame ?_ _) | (with_reducible exact Nat.le_refl _) | omega | (simp only [World.size_alloc, World.size_setCell, World.size_drew, setRow_size]; omega) | (simp; omega) | (simp; done)))) (hb3.mono (by (try simp only [World.size_alloc, World.size_setCell, World.size_drew, setRow_size]); omega)); clear hb3; (try clear hB hs); have hB := hB'; clear hB'; have hs := hB.size
      go_wp2
      go_ret
      exact ⟨by rw [HQ.out, D1.out, d2]; rfl, hB⟩
    · have d2 : decide (0 ≤ rb) = false := decide_eq_false c2
      go_enter Try.func72, Try.ntmps72
      go_wp2
      refine Ear.Pl.wp_region_qb 17 (by kernel_rfl) (by kernel_rfl) (fun C hC1 hC2 => ?_); simp only [List.take_succ_cons, List.take_zero, List.drop_succ_cons, List.drop_zero]
      (iterate 7 (refine Ear.Pl.wpQ_run (by rfl) ?_; apply Exists.intro; refine ⟨fun K Q hK w' hw' => ?_, ?_⟩; (focus (obtain ⟨hc', hf'⟩ := Ear.bcell (hC1.out w' hw'); simp only [Act.put, List.setIfInBounds_toArray, List.set_cons_succ, List.set_cons_zero] at hK; go_wp2; exact hw')); simp only [Act.put, List.setIfInBounds_toArray, List.set_cons_succ, List.set_cons_zero]))
      refine Ear.Pl.wpQ_run (by rfl) ?_; apply Exists.intro; refine ⟨fun K Q hK w' hw' => ?_, ?_⟩; (focus (simp only [Act.put, List.setIfInBounds_toArray, List.set_cons_succ, List.set_cons_zero] at hK; go_wp2_with (refine (Rank_eq HB.out _).mono ?_; rintro e w'' ⟨rfl, hb''⟩); exact hC2.out _ _ hw' hb'')); simp only [Act.put, List.setIfInBounds_toArray, List.set_cons_succ, List.set_cons_zero]
      (iterate 3 (refine Ear.Pl.wpQ_run (by rfl) ?_; apply Exists.intro; refine ⟨fun K Q hK w' hw' => ?_, ?_⟩; (focus (obtain ⟨hc', hf'⟩ := Ear.bcell (hC1.out w' hw'); simp only [Act.put, List.setIfInBounds_toArray, List.set_cons_succ, List.set_cons_zero] at hK; go_wp2; exact hw')); simp only [Act.put, List.setIfInBounds_toArray, List.set_cons_succ, List.set_cons_zero]))
      (iterate 5 (refine Ear.Pl.wpQ_skip (by rfl) ?_; simp only [Act.put, List.setIfInBounds_toArray, List.set_cons_succ, List.set_cons_zero]))
      (iterate 1 (refine Ear.Pl.wpQ_run (by rfl) ?_; apply Exists.intro; refine ⟨fun K Q hK w' hw' => ?_, ?_⟩; (focus (obtain ⟨hc', hf'⟩ := Ear.bcell (hC1.out w' hw'); simp only [Act.put, List.setIfInBounds_toArray, List.set_cons_succ, List.set_cons_zero] at hK; go_wp2; exact hw')); simp only [Act.put, List.setIfInBounds_toArray, List.set_cons_succ, List.set_cons_zero]))
      refine Ear.Pl.wpQ_nil ?_
      intro w3 hb3
      clear hC1 hC2
      have hB' : Below w.heap.size w w3 := Below.trans (by (repeat' (first | (with_reducible exact Below.refl _ _) | (with_reducible assumption) | (show Below 0 _ _; with_reducible refine Below.mono (by assumption) (Nat.zero_le _)) | (with_reducible refine below_setRow ?_ ?_ _) | (with_reducible refine Below.alloc ?_ ?_ _) | (with_reducible refine Below.drew ?_) | (with_reducible refine Below.setCell ?_ ?_ _) | (with_reducible refine Below.frame ?_ _) | (with_reducible exact Nat.le_refl _) | omega | (simp only [World.size_alloc, World.size_setCell, World.size_drew, setRow_size]; omega) | (simp; omega) | (simp; done)))) (hb3.mono (by (try simp only [World.size_alloc, World.size_setCell, World.size_drew, setRow_size]); omega)); clear hb3; (try clear hB hs); have hB := hB'; clear hB'; have hs := hB.size
      go_wp2
      go_ret
      exact ⟨by rw [HQ.out, d2]; simp, hB⟩
  · have e1 : (a.of_ == b.of_) = false := beq_eq_false_iff_ne.2 c1
    have d1 : decide (a.of_ = b.of_) = false := decide_eq_false c1
    have D1 := Lib.hid d1
    clear c1 d1
    go_enter Try.func72, Try.ntmps72
    go_wp2
    refine Ear.Pl.wp_region_qb 17 (by kernel_rfl) (by kernel_rfl) (fun C hC1 hC2 => ?_); simp only [List.take_succ_cons, List.take_zero, List.drop_succ_cons, List.drop_zero]
    (iterate 6 (refine Ear.Pl.wpQ_run (by rfl) ?_; apply Exists.intro; refine ⟨fun K Q hK w' hw' => ?_, ?_⟩; (focus (obtain ⟨hc', hf'⟩ := Ear.bcell (hC1.out w' hw'); simp only [Act.put, List.setIfInBounds_toArray, List.set_cons_succ, List.set_cons_zero] at hK; go_wp2; exact hw')); simp only [Act.put, List.setIfInBounds_toArray, List.set_cons_succ, List.set_cons_zero]))
    (iterate 3 (refine Ear.Pl.wpQ_skip (by rfl) ?_; simp only [Act.put, List.setIfInBounds_toArray, List.set_cons_succ, List.set_cons_zero]))
    (iterate 2 (refine Ear.Pl.wpQ_run (by rfl) ?_; apply Exists.intro; refine ⟨fun K Q hK w' hw' => ?_, ?_⟩; (focus (obtain ⟨hc', hf'⟩ := Ear.bcell (hC1.out w' hw'); simp only [Act.put, List.setIfInBounds_toArray, List.set_cons_succ, List.set_cons_zero] at hK; go_wp2; exact hw')); simp only [Act.put, List.setIfInBounds_toArray, List.set_cons_succ, List.set_cons_zero]))
    (iterate 5 (refine Ear.Pl.wpQ_skip (by rfl) ?_; simp only [Act.put, List.setIfInBounds_toArray, List.set_cons_succ, List.set_cons_zero]))
    (iterate 1 (refine Ear.Pl.wpQ_run (by rfl) ?_; apply Exists.intro; refine ⟨fun K Q hK w' hw' => ?_, ?_⟩; (focus (obtain ⟨hc', hf'⟩ := Ear.bcell (hC1.out w' hw'); simp only [Act.put, List.setIfInBounds_toArray, List.set_cons_succ, List.set_cons_zero] at hK; go_wp2; exact hw')); simp only [Act.put, List.setIfInBounds_toArray, List.set_cons_succ, List.set_cons_zero]))
    refine Ear.Pl.wpQ_nil ?_
    intro w3 hb3
    clear hC1 hC2
    have hB' : Below w.heap.size w w3 := Below.trans (by (repeat' (first | (with_reducible exact Below.refl _ _) | (with_reducible assumption) | (show Below 0 _ _; with_reducible refine Below.mono (by assumption) (Nat.zero_le _)) | (with_reducible refine below_setRow ?_ ?_ _) | (with_reducible refine Below.alloc ?_ ?_ _) | (with_reducible refine Below.drew ?_) | (with_reducible refine Below.setCell ?_ ?_ _) | (with_reducible refine Below.frame ?_ _) | (with_reducible exact Nat.le_refl _) | omega | (simp only [World.size_alloc, World.size_setCell, World.size_drew, setRow_size]; omega) | (simp; omega) | (simp; done)))) (hb3.mono (by (try simp only [World.size_alloc, World.size_setCell, World.size_drew, setRow_size]); omega)); clear hb3; (try clear hB hs); have hB := hB'; clear hB'; have hs := hB.size
    go_wp2
    go_ret
    exact ⟨by rw [HQ.out, D1.out]; rfl, hB⟩
set_option maxHeartbeats 1000000 in
theorem Fresh_calls (i : Int) (w : World) : Calls Try.prog 70 #[.int .i64 i] w fun e w' => e = .returned (.agg #[.int .i64 i, .int .i64 0, .int .i64 1]) ∧ Below w.heap.size w w' := by
  go_enter Try.func70, Try.ntmps70
  go_wp2
  refine Ear.bp_world (Ear.Sh w.heap.size w [(w.heap.size, _, _)]) (.cons (by (repeat' (first | (show Ear.Blk _ _ _ _; with_reducible assumption) | (with_reducible exact Ear.Blk.new _ _ _) | (with_reducible refine Ear.Blk.new' ?_; (simp only [World.size_alloc, World.size_setCell, World.size_drew, setRow_size]; done)) | (with_reducible apply Ear.Blk.alloc) | (with_reducible apply Ear.Blk.drew) | (with_reducible apply Ear.Blk.setC) | (with_reducible apply Ear.Blk.setC' (e := by omega)) | (with_reducible apply Ear.Blk.rowC (e := by first | rfl | omega)) | (with_reducible apply Ear.Blk.otherRow) | (with_reducible apply Ear.Blk.other) | (show _ ≠ _; (try simp only [World.size_alloc, World.size_setCell, World.size_drew, setRow_size]); omega) | (show _ < _; (try simp only [World.size_alloc, World.size_setCell, World.size_drew, setRow_size]); omega)))) (.nil (by (repeat' (first | (with_reducible exact Below.refl _ _) | (with_reducible assumption) | (show Below 0 _ _; with_reducible refine Below.mono (by assumption) (Nat.zero_le _)) | (with_reducible refine below_setRow ?_ ?_ _) | (with_reducible refine Below.alloc ?_ ?_ _) | (with_reducible refine Below.drew ?_) | (with_reducible refine Below.setCell ?_ ?_ _) | (with_reducible refine Below.frame ?_ _) | (with_reducible exact Nat.le_refl _) | omega | (simp only [World.size_alloc, World.size_setCell, World.size_drew, setRow_size]; omega) | (simp; omega) | (simp; done)))))) ?_; (try clear hr_l); (try clear hr_c); (try clear hr_f); (try clear hr); (try clear hB hs); rintro w2 ⟨hr, hB⟩; replace hB : Below w.heap.size w w2 := hB; have hs := hB.size; (try simp only [List.set_cons_zero, List.set_cons_succ] at hr); have hr_l := hr.lt; have hr_c := hr.cell; have hr_f := hr.frozen
  refine bodyPost_ret (v := .agg #[.int .i64 i, .int .i64 0, .int .i64 1]) (by simp [results, Try.results70, go_sem, *]) rfl ⟨rfl, hB⟩
theorem eqBkP (b : Addr) (W : World) : Sem.run Try.prog (binOp BinOp.eql 61 (.pointer (some b)) (.pointer none)) W = .ok (.bool false) W := by kernel_rfl
attribute [local go_sem] eqBkP
theorem blist_at {w : World} {B lo g cap : Nat} {L : List Nt} (h : BkAt w B lo g cap L) : Calls Try.prog 87 #[.pointer (some ⟨B, 0, none⟩)] w fun e w' => e = .returned (.slice (some ⟨g, 0, none⟩) L.length cap) ∧ w' = w := by
  have hc := h.blk.cell
  clear h
  go_enter Try.func87, Try.ntmps87
  go_wp2
  go_ret
  exact ⟨rfl, rfl⟩
theorem Size_at {w : World} {B lo g cap : Nat} {L : List Nt} (h : BkAt w B lo g cap L) : Calls Try.prog 71 #[.pointer (some ⟨B, 0, none⟩)] w fun e w' => e = .returned (.int .i64 L.length) ∧ Below w.heap.size w w' := by
  have H := Lib.hid h
  clear h
  go_enter Try.func71, Try.ntmps71
  go_wp2_with (go_at_call 87; refine (blist_at H.out).mono ?_; rintro e w' ⟨rfl, rfl⟩)
  go_ret
  exact ⟨rfl, Below.refl _ _⟩
theorem owns_frozen {W : World} {lo e s n cap g : Nat} {xs : List Value} (h : W.ownsRow lo e s (.slice (some ⟨g, 0, none⟩) n cap) n xs) (j : Nat) : W.frozen? ⟨g, j, none⟩ = false := by
  obtain ⟨hl, ⟨hv, -⟩ | ⟨g', cap', cur, hv, hb, hc, -⟩⟩ := h
  · cases hv
  · simp only [Value.slice.injEq, Option.some.injEq, Addr.mk.injEq] at hv
    obtain ⟨⟨rfl, -, -⟩, -, -⟩ := hv
    have hB : Ear.Blk W g e cur.toList := by unfold Ear.Blk; simpa using hc
    exact hB.frozen j
theorem nt_cells {W : World} {lo e n cap g : Nat} {L : List Nt} (h : W.ownsRow lo e 3 (.slice (some ⟨g, 0, none⟩) n cap) n (ntsV L)) (k : Nat) (hk : k < L.length) :
    W.cell? ⟨g, k * 3, none⟩ = some (.int .i64 L[k].of_) ∧ W.cell? ⟨g, k * 3 + 1, none⟩ = some (.int .i64 L[k].tag) ∧ W.cell? ⟨g, k * 3 + 2, none⟩ = some (.int .i64 L[k].kind) := by
  have hl := owns_liesV h
  have key : ∀ j, j < 3 → W.cell? ⟨g, k * 3 + j, none⟩ = (ntV L[k])[j]? := fun j hj => by
    have hlen := ntsV_len L
    obtain ⟨B, o, he, -, hc⟩ := hl (k * 3 + j) (by omega)
    simp only [Option.some.injEq, Addr.mk.injEq] at he
    obtain ⟨rfl, rfl, -⟩ := he
    rw [← ntsV_get L k j hk hj, ← hc, Nat.zero_add]
  exact ⟨key 0 (by omega), key 1 (by omega), key 2 (by omega)⟩
def errN (n : Nat) (x : Nt) : Int := if validN n x = true then 0 else 50
theorem errN_ok {n : Nat} {x : Nt} (h : validN n x = true) : errN n x = 0 := by unfold errN; rw [if_pos h]
theorem errN_bad {n : Nat} {x : Nt} (h : validN n x = false) : errN n x = 50 := by unfold errN; rw [if_neg (by rw [h]; decide)]
/-- What Take leaves. -/
structure BTakePost (w : World) (B lo g cap : Nat) (L : List Nt) (x : Nt) (e : Ending) (w' : World) : Prop where
  ret : e = .returned (.tuple #[.bool (takeB L x), .int .i64 (errN L.length x)])
  at_ : BkAt w' B lo g cap (takeN L x)
  keep : Ear.Keep (fun k => k = g) w w'
set_option maxRecDepth 100000 in
set_option maxHeartbeats 4000000 in
theorem BTake_bad {w : World} {B lo g cap : Nat} {L : List Nt} {x : Nt} (h : BkAt w B lo g cap L) (hv : validN L.length x = false) : Calls Try.prog 31 #[.pointer (some ⟨B, 0, none⟩), .agg #[.int .i64 (x).of_, .int .i64 (x).tag, .int .i64 (x).kind]] w (BTakePost w B lo g cap L x) := by
  have H := Lib.hid h
  have HV := Lib.hid hv
  have ht : takeB L x = false := by unfold takeB; rw [hv, Bool.false_and]
  have HT := Lib.hid ht
  clear h hv ht
  go_enter Try.func31, Try.ntmps31
  go_wp2
  refine Ear.wp_world (Ear.AndW (Ear.Sh w.heap.size w [(w.heap.size, _, _)]) (fun W => Hid (BkAt W B lo g cap L))) ⟨(.cons (by (repeat' (first | (show Ear.Blk _ _ _ _; with_reducible assumption) | (with_reducible exact Ear.Blk.new _ _ _) | (with_reducible refine Ear.Blk.new' ?_; (simp only [World.size_alloc, World.size_setCell, World.size_drew, setRow_size]; done)) | (with_reducible apply Ear.Blk.alloc) | (with_reducible apply Ear.Blk.drew) | (with_reducible apply Ear.Blk.setC) | (with_reducible apply Ear.Blk.setC' (e := by omega)) | (with_reducible apply Ear.Blk.rowC (e := by first | rfl | omega)) | (with_reducible apply Ear.Blk.otherRow) | (with_reducible apply Ear.Blk.other) | (show _ ≠ _; (try simp only [World.size_alloc, World.size_setCell, World.size_drew, setRow_size]); omega) | (show _ < _; (try simp only [World.size_alloc, World.size_setCell, World.size_drew, setRow_size]); omega)))) (.nil (by (repeat' (first | (with_reducible exact Below.refl _ _) | (with_reducible assumption) | (show Below 0 _ _; with_reducible refine Below.mono (by assumption) (Nat.zero_le _)) | (with_reducible refine below_setRow ?_ ?_ _) | (with_reducible refine Below.alloc ?_ ?_ _) | (with_reducible refine Below.drew ?_) | (with_reducible refine Below.setCell ?_ ?_ _) | (with_reducible refine Below.frame ?_ _) | (with_reducible exact Nat.le_refl _) | omega | (simp only [World.size_alloc, World.size_setCell, World.size_drew, setRow_size]; omega) | (simp; omega) | (simp; done)))))), H.out.below (by (repeat' (first | (with_reducible exact Below.refl _ _) | (with_reducible assumption) | (show Below 0 _ _; with_reducible refine Below.mono (by assumption) (Nat.zero_le _)) | (with_reducible refine below_setRow ?_ ?_ _) | (with_reducible refine Below.alloc ?_ ?_ _) | (with_reducible refine Below.drew ?_) | (with_reducible refine Below.setCell ?_ ?_ _) | (with_reducible refine Below.frame ?_ _) | (with_reducible exact Nat.le_refl _) | omega | (simp only [World.size_alloc, World.size_setCell, World.size_drew, setRow_size]; omega) | (simp; omega) | (simp; done))))⟩ ?_; (try clear hx_l); (try clear hx_c); (try clear hx_f); (try clear hx); (try clear H1); (try clear hB hs); rintro w1 ⟨⟨hx, hB⟩, H1⟩; replace hB : Below w.heap.size w w1 := hB; have hs := hB.size; (try simp only [List.set_cons_zero, List.set_cons_succ] at hx); have hx_l := hx.lt; have hx_c := hx.cell; have hx_f := hx.frozen
  refine Ear.Pl.wp_region_qb 4 (by kernel_rfl) (by kernel_rfl) (fun C hC1 hC2 => ?_); simp only [List.take_succ_cons, List.take_zero, List.drop_succ_cons, List.drop_zero]
  (iterate 1 (refine Ear.Pl.wpQ_run (by rfl) ?_; apply Exists.intro; refine ⟨fun K Q hK w' hw' => ?_, ?_⟩; (focus (obtain ⟨hc', hf'⟩ := Ear.bcell (hC1.out w' hw'); simp only [Act.put, List.setIfInBounds_toArray, List.set_cons_succ, List.set_cons_zero] at hK; go_wp2; exact hw')); simp only [Act.put, List.setIfInBounds_toArray, List.set_cons_succ, List.set_cons_zero]))
  refine Ear.Pl.wpQ_run (by rfl) ?_; apply Exists.intro; refine ⟨fun K Q hK w' hw' => ?_, ?_⟩; (focus (simp only [Act.put, List.setIfInBounds_toArray, List.set_cons_succ, List.set_cons_zero] at hK; go_wp2_with (refine (Size_at (H1.out.below (((Below.refl _ w1).drew).trans (hC1.out w' hw')))).mono ?_; rintro e w'' ⟨rfl, hb''⟩); exact hC2.out _ _ hw' hb'')); simp only [Act.put, List.setIfInBounds_toArray, List.set_cons_succ, List.set_cons_zero]
  (iterate 1 (refine Ear.Pl.wpQ_run (by rfl) ?_; apply Exists.intro; refine ⟨fun K Q hK w' hw' => ?_, ?_⟩; (focus (obtain ⟨hc', hf'⟩ := Ear.bcell (hC1.out w' hw'); simp only [Act.put, List.setIfInBounds_toArray, List.set_cons_succ, List.set_cons_zero] at hK; go_wp2; exact hw')); simp only [Act.put, List.setIfInBounds_toArray, List.set_cons_succ, List.set_cons_zero]))
  refine Ear.Pl.wpQ_run (by rfl) ?_; apply Exists.intro; refine ⟨fun K Q hK w' hw' => ?_, ?_⟩; (focus (simp only [Act.put, List.setIfInBounds_toArray, List.set_cons_succ, List.set_cons_zero] at hK; go_wp2_with (refine (Valid_eq HV.out _).mono ?_; rintro e w'' ⟨rfl, hb''⟩); exact hC2.out _ _ hw' hb'')); simp only [Act.put, List.setIfInBounds_toArray, List.set_cons_succ, List.set_cons_zero]
  refine Ear.Pl.wpQ_nil ?_
  intro w3 hb3
  clear hC1 hC2
  have H3 := Lib.hid (H1.out.below (((Below.refl _ w1).drew).trans hb3))
  have hB' : Below w.heap.size w w3 := Below.trans (by (repeat' (first | (with_reducible exact Below.refl _ _) | (with_reducible assumption) | (show Below 0 _ _; with_reducible refine Below.mono (by assumption) (Nat.zero_le _)) | (with_reducible refine below_setRow ?_ ?_ _) | (with_reducible refine Below.alloc ?_ ?_ _) | (with_reducible refine Below.drew ?_) | (with_reducible refine Below.setCell ?_ ?_ _) | (with_reducible refine Below.frame ?_ _) | (with_reducible exact Nat.le_refl _) | omega | (simp only [World.size_alloc, World.size_setCell, World.size_drew, setRow_size]; omega) | (simp; omega) | (simp; done)))) (hb3.mono (by (try simp only [World.size_alloc, World.size_setCell, World.size_drew, setRow_size]); omega)); clear hb3; (try clear hB hs); have hB := hB'; clear hB'; have hs := hB.size
  go_wp2
  go_ret2
  exact ⟨by rw [HT.out, errN_bad HV.out]; rfl, by unfold takeN; rw [if_neg (by rw [HT.out]; decide)]; exact H3.out, Ear.Keep.of_below hB⟩
set_option maxRecDepth 100000 in
set_option maxHeartbeats 4000000 in
theorem BTake_good {w : World} {B lo g cap : Nat} {L : List Nt} {x : Nt} (h : BkAt w B lo g cap L) (hv : validN L.length x = true) : Calls Try.prog 31 #[.pointer (some ⟨B, 0, none⟩), .agg #[.int .i64 (x).of_, .int .i64 (x).tag, .int .i64 (x).kind]] w (BTakePost w B lo g cap L x) := by
  have H := Lib.hid h
  have HV := Lib.hid hv
  obtain ⟨h0, h1, -⟩ := of_valid hv
  obtain ⟨of_, tag, kind⟩ := x
  dsimp only at h0 h1
  obtain ⟨k, rfl⟩ := Int.eq_ofNat_of_zero_le h0
  have hk : k < L.length := by omega
  obtain ⟨b, hb⟩ : ∃ b, takeB L ⟨(k : Int), tag, kind⟩ = b := ⟨_, rfl⟩
  have hbb : beatsN ⟨(k : Int), tag, kind⟩ L[k] = b := by
    rw [← hb]
    unfold takeB
    rw [hv, Bool.true_and]
    simp only [Int.toNat_natCast, List.getElem?_eq_getElem hk]
  have HBB := Lib.hid hbb
  have HT := Lib.hid hb
  have hgB := h.ne h
  obtain ⟨y, hy⟩ : ∃ y, L[k] = y := ⟨_, rfl⟩
  have HY := Lib.hid hy
  have hc3 := nt_cells h.own k hk
  have hg_l := h.g_lt.2
  have hfz := owns_frozen h.own
  have hBk := h.blk
  rw [hy] at hc3 HBB
  obtain ⟨q0, q1, q2⟩ := hc3
  have hB0 : B < w.heap.size := h.blk.lt
  clear h hv hb hbb h0 h1 hy
  have HF := Lib.hid hfz
  cases b
  all_goals
    go_enter Try.func31, Try.ntmps31
    go_wp2
    refine Ear.wp_world (Ear.AndW (Ear.Sh w.heap.size w [(w.heap.size, _, _), (B, _, _)]) (fun W => Hid (BkAt W B lo g cap L))) ⟨(.cons (by (repeat' (first | (show Ear.Blk _ _ _ _; with_reducible assumption) | (with_reducible exact Ear.Blk.new _ _ _) | (with_reducible refine Ear.Blk.new' ?_; (simp only [World.size_alloc, World.size_setCell, World.size_drew, setRow_size]; done)) | (with_reducible apply Ear.Blk.alloc) | (with_reducible apply Ear.Blk.drew) | (with_reducible apply Ear.Blk.setC) | (with_reducible apply Ear.Blk.setC' (e := by omega)) | (with_reducible apply Ear.Blk.rowC (e := by first | rfl | omega)) | (with_reducible apply Ear.Blk.otherRow) | (with_reducible apply Ear.Blk.other) | (show _ ≠ _; (try simp only [World.size_alloc, World.size_setCell, World.size_drew, setRow_size]); omega) | (show _ < _; (try simp only [World.size_alloc, World.size_setCell, World.size_drew, setRow_size]); omega)))) (.cons (by (repeat' (first | (show Ear.Blk _ _ _ _; with_reducible assumption) | (with_reducible exact Ear.Blk.new _ _ _) | (with_reducible refine Ear.Blk.new' ?_; (simp only [World.size_alloc, World.size_setCell, World.size_drew, setRow_size]; done)) | (with_reducible apply Ear.Blk.alloc) | (with_reducible apply Ear.Blk.drew) | (with_reducible apply Ear.Blk.setC) | (with_reducible apply Ear.Blk.setC' (e := by omega)) | (with_reducible apply Ear.Blk.rowC (e := by first | rfl | omega)) | (with_reducible apply Ear.Blk.otherRow) | (with_reducible apply Ear.Blk.other) | (show _ ≠ _; (try simp only [World.size_alloc, World.size_setCell, World.size_drew, setRow_size]); omega) | (show _ < _; (try simp only [World.size_alloc, World.size_setCell, World.size_drew, setRow_size]); omega)))) (.nil (by (repeat' (first | (with_reducible exact Below.refl _ _) | (with_reducible assumption) | (show Below 0 _ _; with_reducible refine Below.mono (by assumption) (Nat.zero_le _)) | (with_reducible refine below_setRow ?_ ?_ _) | (with_reducible refine Below.alloc ?_ ?_ _) | (with_reducible refine Below.drew ?_) | (with_reducible refine Below.setCell ?_ ?_ _) | (with_reducible refine Below.frame ?_ _) | (with_reducible exact Nat.le_refl _) | omega | (simp only [World.size_alloc, World.size_setCell, World.size_drew, setRow_size]; omega) | (simp; omega) | (simp; done))))))), H.out.below (by (repeat' (first | (with_reducible exact Below.refl _ _) | (with_reducible assumption) | (show Below 0 _ _; with_reducible refine Below.mono (by assumption) (Nat.zero_le _)) | (with_reducible refine below_setRow ?_ ?_ _) | (with_reducible refine Below.alloc ?_ ?_ _) | (with_reducible refine Below.drew ?_) | (with_reducible refine Below.setCell ?_ ?_ _) | (with_reducible refine Below.frame ?_ _) | (with_reducible exact Nat.le_refl _) | omega | (simp only [World.size_alloc, World.size_setCell, World.size_drew, setRow_size]; omega) | (simp; omega) | (simp; done))))⟩ ?_; (try clear hx_l); (try clear hx_c); (try clear hx_f); (try clear hx); (try clear hBk_l); (try clear hBk_c); (try clear hBk_f); (try clear hBk); (try clear H1); (try clear hB hs); rintro w1 ⟨⟨hx, hBk, hB⟩, H1⟩; replace hB : Below w.heap.size w w1 := hB; have hs := hB.size; (try simp only [List.set_cons_zero, List.set_cons_succ] at hx); (try simp only [List.set_cons_zero, List.set_cons_succ] at hBk); have hx_l := hx.lt; have hx_c := hx.cell; have hx_f := hx.frozen; have hBk_l := hBk.lt; have hBk_c := hBk.cell; have hBk_f := hBk.frozen
    refine Ear.Pl.wp_region_qb 4 (by kernel_rfl) (by kernel_rfl) (fun C hC1 hC2 => ?_); simp only [List.take_succ_cons, List.take_zero, List.drop_succ_cons, List.drop_zero]
    (iterate 1 (refine Ear.Pl.wpQ_run (by rfl) ?_; apply Exists.intro; refine ⟨fun K Q hK w' hw' => ?_, ?_⟩; (focus (obtain ⟨hc', hf'⟩ := Ear.bcell (hC1.out w' hw'); simp only [Act.put, List.setIfInBounds_toArray, List.set_cons_succ, List.set_cons_zero] at hK; go_wp2; exact hw')); simp only [Act.put, List.setIfInBounds_toArray, List.set_cons_succ, List.set_cons_zero]))
    refine Ear.Pl.wpQ_run (by rfl) ?_; apply Exists.intro; refine ⟨fun K Q hK w' hw' => ?_, ?_⟩; (focus (simp only [Act.put, List.setIfInBounds_toArray, List.set_cons_succ, List.set_cons_zero] at hK; go_wp2_with (refine (Size_at (H1.out.below (((Below.refl _ w1).drew).trans (hC1.out w' hw')))).mono ?_; rintro e w'' ⟨rfl, hb''⟩); exact hC2.out _ _ hw' hb'')); simp only [Act.put, List.setIfInBounds_toArray, List.set_cons_succ, List.set_cons_zero]
    (iterate 1 (refine Ear.Pl.wpQ_run (by rfl) ?_; apply Exists.intro; refine ⟨fun K Q hK w' hw' => ?_, ?_⟩; (focus (obtain ⟨hc', hf'⟩ := Ear.bcell (hC1.out w' hw'); simp only [Act.put, List.setIfInBounds_toArray, List.set_cons_succ, List.set_cons_zero] at hK; go_wp2; exact hw')); simp only [Act.put, List.setIfInBounds_toArray, List.set_cons_succ, List.set_cons_zero]))
    refine Ear.Pl.wpQ_run (by rfl) ?_; apply Exists.intro; refine ⟨fun K Q hK w' hw' => ?_, ?_⟩; (focus (simp only [Act.put, List.setIfInBounds_toArray, List.set_cons_succ, List.set_cons_zero] at hK; go_wp2_with (refine (Valid_eq HV.out _).mono ?_; rintro e w'' ⟨rfl, hb''⟩); exact hC2.out _ _ hw' hb'')); simp only [Act.put, List.setIfInBounds_toArray, List.set_cons_succ, List.set_cons_zero]
    refine Ear.Pl.wpQ_nil ?_
    intro w3 hb3
    clear hC1 hC2 q0 q1 q2 hfz
    have H3 := Lib.hid (H1.out.below (((Below.refl _ w1).drew).trans hb3))
    obtain ⟨q0, q1, q2⟩ := nt_cells H3.out.own k hk
    rw [HY.out] at q0 q1 q2
    have hg3 := H3.out.g_lt.2
    have hB' : Below w.heap.size w w3 := Below.trans (by (repeat' (first | (with_reducible exact Below.refl _ _) | (with_reducible assumption) | (show Below 0 _ _; with_reducible refine Below.mono (by assumption) (Nat.zero_le _)) | (with_reducible refine below_setRow ?_ ?_ _) | (with_reducible refine Below.alloc ?_ ?_ _) | (with_reducible refine Below.drew ?_) | (with_reducible refine Below.setCell ?_ ?_ _) | (with_reducible refine Below.frame ?_ _) | (with_reducible exact Nat.le_refl _) | omega | (simp only [World.size_alloc, World.size_setCell, World.size_drew, setRow_size]; omega) | (simp; omega) | (simp; done)))) (hb3.mono (by (try simp only [World.size_alloc, World.size_setCell, World.size_drew, setRow_size]); omega)); have hx' := (show Ear.Blk w3 (w.heap.size) _ _ from by (repeat' (first | (show Ear.Blk _ _ _ _; with_reducible assumption) | (with_reducible exact Ear.Blk.new _ _ _) | (with_reducible refine Ear.Blk.new' ?_; (simp only [World.size_alloc, World.size_setCell, World.size_drew, setRow_size]; done)) | (with_reducible apply Ear.Blk.alloc) | (with_reducible apply Ear.Blk.drew) | (with_reducible apply Ear.Blk.setC) | (with_reducible apply Ear.Blk.setC' (e := by omega)) | (with_reducible apply Ear.Blk.rowC (e := by first | rfl | omega)) | (with_reducible apply Ear.Blk.otherRow) | (with_reducible apply Ear.Blk.other) | (with_reducible apply Ear.Blk.below (hb := hb3)) | (show _ ≠ _; (try simp only [World.size_alloc, World.size_setCell, World.size_drew, setRow_size]); omega) | (show _ < _; (try simp only [World.size_alloc, World.size_setCell, World.size_drew, setRow_size]); omega)))); have hBk' := (show Ear.Blk w3 (B) _ _ from by (repeat' (first | (show Ear.Blk _ _ _ _; with_reducible assumption) | (with_reducible exact Ear.Blk.new _ _ _) | (with_reducible refine Ear.Blk.new' ?_; (simp only [World.size_alloc, World.size_setCell, World.size_drew, setRow_size]; done)) | (with_reducible apply Ear.Blk.alloc) | (with_reducible apply Ear.Blk.drew) | (with_reducible apply Ear.Blk.setC) | (with_reducible apply Ear.Blk.setC' (e := by omega)) | (with_reducible apply Ear.Blk.rowC (e := by first | rfl | omega)) | (with_reducible apply Ear.Blk.otherRow) | (with_reducible apply Ear.Blk.other) | (with_reducible apply Ear.Blk.below (hb := hb3)) | (show _ ≠ _; (try simp only [World.size_alloc, World.size_setCell, World.size_drew, setRow_size]); omega) | (show _ < _; (try simp only [World.size_alloc, World.size_setCell, World.size_drew, setRow_size]); omega)))); clear hb3; (try clear hx_l); (try clear hx_c); (try clear hx_f); (try clear hx); have hx := hx'; clear hx'; (try simp only [List.set_cons_zero, List.set_cons_succ] at hx); have hx_l := hx.lt; have hx_c := hx.cell; have hx_f := hx.frozen; (try clear hBk_l); (try clear hBk_c); (try clear hBk_f); (try clear hBk); have hBk := hBk'; clear hBk'; (try simp only [List.set_cons_zero, List.set_cons_succ] at hBk); have hBk_l := hBk.lt; have hBk_c := hBk.cell; have hBk_f := hBk.frozen; (try clear hB hs); have hB := hB'; clear hB'; have hs := hB.size
    go_wp2
    refine Ear.Pl.wp_region_qb 10 (by kernel_rfl) (by kernel_rfl) (fun C hC1 hC2 => ?_); simp only [List.take_succ_cons, List.take_zero, List.drop_succ_cons, List.drop_zero]
    (iterate 9 (refine Ear.Pl.wpQ_run (by rfl) ?_; apply Exists.intro; refine ⟨fun K Q hK w' hw' => ?_, ?_⟩; (focus (obtain ⟨hc', hf'⟩ := Ear.bcell (hC1.out w' hw'); simp only [Act.put, List.setIfInBounds_toArray, List.set_cons_succ, List.set_cons_zero] at hK; go_wp2; exact hw')); simp only [Act.put, List.setIfInBounds_toArray, List.set_cons_succ, List.set_cons_zero]))
    refine Ear.Pl.wpQ_run (by rfl) ?_; apply Exists.intro; refine ⟨fun K Q hK w' hw' => ?_, ?_⟩; (focus (simp only [Act.put, List.setIfInBounds_toArray, List.set_cons_succ, List.set_cons_zero] at hK; go_wp2_with (refine (Beats_eq HBB.out _).mono ?_; rintro e w'' ⟨rfl, hb''⟩); exact hC2.out _ _ hw' hb'')); simp only [Act.put, List.setIfInBounds_toArray, List.set_cons_succ, List.set_cons_zero]
    refine Ear.Pl.wpQ_nil ?_
    intro w4 hb4
    clear hC1 hC2 q0 q1 q2
    have H4 := Lib.hid (H3.out.below (((Below.refl _ w3).drew).trans hb4))
    have hB' : Below w.heap.size w w4 := Below.trans (by (repeat' (first | (with_reducible exact Below.refl _ _) | (with_reducible assumption) | (show Below 0 _ _; with_reducible refine Below.mono (by assumption) (Nat.zero_le _)) | (with_reducible refine below_setRow ?_ ?_ _) | (with_reducible refine Below.alloc ?_ ?_ _) | (with_reducible refine Below.drew ?_) | (with_reducible refine Below.setCell ?_ ?_ _) | (with_reducible refine Below.frame ?_ _) | (with_reducible exact Nat.le_refl _) | omega | (simp only [World.size_alloc, World.size_setCell, World.size_drew, setRow_size]; omega) | (simp; omega) | (simp; done)))) (hb4.mono (by (try simp only [World.size_alloc, World.size_setCell, World.size_drew, setRow_size]); omega)); have hx' := (show Ear.Blk w4 (w.heap.size) _ _ from by (repeat' (first | (show Ear.Blk _ _ _ _; with_reducible assumption) | (with_reducible exact Ear.Blk.new _ _ _) | (with_reducible refine Ear.Blk.new' ?_; (simp only [World.size_alloc, World.size_setCell, World.size_drew, setRow_size]; done)) | (with_reducible apply Ear.Blk.alloc) | (with_reducible apply Ear.Blk.drew) | (with_reducible apply Ear.Blk.setC) | (with_reducible apply Ear.Blk.setC' (e := by omega)) | (with_reducible apply Ear.Blk.rowC (e := by first | rfl | omega)) | (with_reducible apply Ear.Blk.otherRow) | (with_reducible apply Ear.Blk.other) | (with_reducible apply Ear.Blk.below (hb := hb4)) | (show _ ≠ _; (try simp only [World.size_alloc, World.size_setCell, World.size_drew, setRow_size]); omega) | (show _ < _; (try simp only [World.size_alloc, World.size_setCell, World.size_drew, setRow_size]); omega)))); have hBk' := (show Ear.Blk w4 (B) _ _ from by (repeat' (first | (show Ear.Blk _ _ _ _; with_reducible assumption) | (with_reducible exact Ear.Blk.new _ _ _) | (with_reducible refine Ear.Blk.new' ?_; (simp only [World.size_alloc, World.size_setCell, World.size_drew, setRow_size]; done)) | (with_reducible apply Ear.Blk.alloc) | (with_reducible apply Ear.Blk.drew) | (with_reducible apply Ear.Blk.setC) | (with_reducible apply Ear.Blk.setC' (e := by omega)) | (with_reducible apply Ear.Blk.rowC (e := by first | rfl | omega)) | (with_reducible apply Ear.Blk.otherRow) | (with_reducible apply Ear.Blk.other) | (with_reducible apply Ear.Blk.below (hb := hb4)) | (show _ ≠ _; (try simp only [World.size_alloc, World.size_setCell, World.size_drew, setRow_size]); omega) | (show _ < _; (try simp only [World.size_alloc, World.size_setCell, World.size_drew, setRow_size]); omega)))); clear hb4; (try clear hx_l); (try clear hx_c); (try clear hx_f); (try clear hx); have hx := hx'; clear hx'; (try simp only [List.set_cons_zero, List.set_cons_succ] at hx); have hx_l := hx.lt; have hx_c := hx.cell; have hx_f := hx.frozen; (try clear hBk_l); (try clear hBk_c); (try clear hBk_f); (try clear hBk); have hBk := hBk'; clear hBk'; (try simp only [List.set_cons_zero, List.set_cons_succ] at hBk); have hBk_l := hBk.lt; have hBk_c := hBk.cell; have hBk_f := hBk.frozen; (try clear hB hs); have hB := hB'; clear hB'; have hs := hB.size
    first
      | (go_wp2; go_ret2; exact ⟨by rw [HT.out, errN_ok HV.out]; rfl, by unfold takeN; rw [if_neg (by rw [HT.out]; decide)]; exact H4.out, Ear.Keep.of_below hB⟩)
      | skip
  obtain ⟨q0, q1, q2⟩ := nt_cells H4.out.own k hk
  have hfz := owns_frozen H4.out.own
  have hg4 := H4.out.g_lt.2
  go_wp2
  refine Ear.Pl.wp_region_qb 8 (by kernel_rfl) (by kernel_rfl) (fun C hC1 hC2 => ?_); simp only [List.take_succ_cons, List.take_zero, List.drop_succ_cons, List.drop_zero]
  (iterate 8 (refine Ear.Pl.wpQ_run (by rfl) ?_; apply Exists.intro; refine ⟨fun K Q hK w' hw' => ?_, ?_⟩; (focus (obtain ⟨hc', hf'⟩ := Ear.bcell (hC1.out w' hw'); simp only [Act.put, List.setIfInBounds_toArray, List.set_cons_succ, List.set_cons_zero] at hK; go_wp2; exact hw')); simp only [Act.put, List.setIfInBounds_toArray, List.set_cons_succ, List.set_cons_zero]))
  refine Ear.Pl.wpQ_nil ?_
  intro w5 hb5
  clear hC1 hC2 q0 q1 q2 hfz
  have H5 := Lib.hid (H4.out.below (((Below.refl _ w4).drew).trans hb5))
  obtain ⟨q0, q1, q2⟩ := nt_cells H5.out.own k hk
  have hfz := owns_frozen H5.out.own
  have hB' : Below w.heap.size w w5 := Below.trans (by (repeat' (first | (with_reducible exact Below.refl _ _) | (with_reducible assumption) | (show Below 0 _ _; with_reducible refine Below.mono (by assumption) (Nat.zero_le _)) | (with_reducible refine below_setRow ?_ ?_ _) | (with_reducible refine Below.alloc ?_ ?_ _) | (with_reducible refine Below.drew ?_) | (with_reducible refine Below.setCell ?_ ?_ _) | (with_reducible refine Below.frame ?_ _) | (with_reducible exact Nat.le_refl _) | omega | (simp only [World.size_alloc, World.size_setCell, World.size_drew, setRow_size]; omega) | (simp; omega) | (simp; done)))) (hb5.mono (by (try simp only [World.size_alloc, World.size_setCell, World.size_drew, setRow_size]); omega)); have hx' := (show Ear.Blk w5 (w.heap.size) _ _ from by (repeat' (first | (show Ear.Blk _ _ _ _; with_reducible assumption) | (with_reducible exact Ear.Blk.new _ _ _) | (with_reducible refine Ear.Blk.new' ?_; (simp only [World.size_alloc, World.size_setCell, World.size_drew, setRow_size]; done)) | (with_reducible apply Ear.Blk.alloc) | (with_reducible apply Ear.Blk.drew) | (with_reducible apply Ear.Blk.setC) | (with_reducible apply Ear.Blk.setC' (e := by omega)) | (with_reducible apply Ear.Blk.rowC (e := by first | rfl | omega)) | (with_reducible apply Ear.Blk.otherRow) | (with_reducible apply Ear.Blk.other) | (with_reducible apply Ear.Blk.below (hb := hb5)) | (show _ ≠ _; (try simp only [World.size_alloc, World.size_setCell, World.size_drew, setRow_size]); omega) | (show _ < _; (try simp only [World.size_alloc, World.size_setCell, World.size_drew, setRow_size]); omega)))); have hBk' := (show Ear.Blk w5 (B) _ _ from by (repeat' (first | (show Ear.Blk _ _ _ _; with_reducible assumption) | (with_reducible exact Ear.Blk.new _ _ _) | (with_reducible refine Ear.Blk.new' ?_; (simp only [World.size_alloc, World.size_setCell, World.size_drew, setRow_size]; done)) | (with_reducible apply Ear.Blk.alloc) | (with_reducible apply Ear.Blk.drew) | (with_reducible apply Ear.Blk.setC) | (with_reducible apply Ear.Blk.setC' (e := by omega)) | (with_reducible apply Ear.Blk.rowC (e := by first | rfl | omega)) | (with_reducible apply Ear.Blk.otherRow) | (with_reducible apply Ear.Blk.other) | (with_reducible apply Ear.Blk.below (hb := hb5)) | (show _ ≠ _; (try simp only [World.size_alloc, World.size_setCell, World.size_drew, setRow_size]); omega) | (show _ < _; (try simp only [World.size_alloc, World.size_setCell, World.size_drew, setRow_size]); omega)))); clear hb5; (try clear hx_l); (try clear hx_c); (try clear hx_f); (try clear hx); have hx := hx'; clear hx'; (try simp only [List.set_cons_zero, List.set_cons_succ] at hx); have hx_l := hx.lt; have hx_c := hx.cell; have hx_f := hx.frozen; (try clear hBk_l); (try clear hBk_c); (try clear hBk_f); (try clear hBk); have hBk := hBk'; clear hBk'; (try simp only [List.set_cons_zero, List.set_cons_succ] at hBk); have hBk_l := hBk.lt; have hBk_c := hBk.cell; have hBk_f := hBk.frozen; (try clear hB hs); have hB := hB'; clear hB'; have hs := hB.size
  go_wp2
  go_ret2
  have hK : Ear.Keep (fun k => k = g) w w5 := Ear.Keep.of_below hB
  have hown := own_nt (x := ⟨(k : Int), tag, kind⟩) H5.out.own hk
  have hne := hgB
  refine ⟨by rw [HT.out, errN_ok HV.out]; rfl, ?_, ((hK.setCell (.inl rfl) _).setCell (.inl rfl) _).setCell (.inl rfl) _⟩
  unfold takeN
  rw [if_pos HT.out, Int.toNat_natCast]
  exact ⟨by rw [List.length_set]; exact ((H5.out.blk.other _ hne _).other _ hne _).other _ hne _, by rw [List.length_set]; exact hown⟩
theorem BTake_calls {w : World} {B lo g cap : Nat} {L : List Nt} (x : Nt) (h : BkAt w B lo g cap L) : Calls Try.prog 31 #[.pointer (some ⟨B, 0, none⟩), .agg #[.int .i64 (x).of_, .int .i64 (x).tag, .int .i64 (x).kind]] w (BTakePost w B lo g cap L x) := by
  cases hv : validN L.length x with
  | false => exact BTake_bad h hv
  | true => exact BTake_good h hv
end Go.Proofs.Ytfnolmlmmimehaa
end
section
namespace Go.Proofs.Ytfnolmlmmimehaa
set_option linter.unusedSimpArgs false
set_option linter.unusedVariables false
open Go.RowKit
theorem Take_bk {w0 W : World} {bs : List Bk} {i : Nat} {b : Bk} (x : Nt) (h : Books w0 W bs) (hi : bs[i]? = some b) :
    Calls Try.prog 31 #[.pointer (some ⟨b.B, 0, none⟩), .agg #[.int .i64 (x).of_, .int .i64 (x).tag, .int .i64 (x).kind]] W fun e W' =>
      e = .returned (.tuple #[.bool (takeB b.L x), .int .i64 (errN b.L.length x)]) ∧ Books w0 W' (bs.set i { b with L := takeN b.L x }) ∧ Ear.Keep (fun k => k = b.g) W W' := by
  obtain ⟨h1, h2, h3⟩ := h.at_ i b hi
  refine (BTake_calls x h1).mono ?_
  rintro e W' ⟨he, hat, hk⟩
  exact ⟨he, h.turn hi hk hat (takeN_ok h3 x), hk⟩
theorem Size_bk {w0 W : World} {bs : List Bk} {i : Nat} {b : Bk} (h : Books w0 W bs) (hi : bs[i]? = some b) :
    Calls Try.prog 71 #[.pointer (some ⟨b.B, 0, none⟩)] W fun e W' => e = .returned (.int .i64 b.L.length) ∧ Below W.heap.size W W' := Size_at (h.at_ i b hi).1
theorem wrap_bk (k n : Nat) (h : k < n) (hn : n ≤ 5000) : wrap64 ((k : Int) + 1) = ((k + 1 : Nat) : Int) := by simp only [wrap64]; omega
theorem nts_get {L : List Nt} {base : Option Addr} {w w' : World} {n : Nat} (k : Nat) (hk : k < L.length) (hL : LiesV (ntsV L) base w) (hB : Below n w w') (hn : w.heap.size ≤ n) :
    ∃ B o, base = some ⟨B, o, none⟩ ∧ B < w'.heap.size ∧ w'.cell? ⟨B, o + k * 3, none⟩ = some (.int .i64 L[k].of_) ∧ w'.cell? ⟨B, o + k * 3 + 1, none⟩ = some (.int .i64 L[k].tag) ∧ w'.cell? ⟨B, o + k * 3 + 2, none⟩ = some (.int .i64 L[k].kind) := by
  have hlen := ntsV_len L
  obtain ⟨B, o, rfl, hBl, -⟩ := hL (k * 3) (by omega)
  have key : ∀ j, j < 3 → w'.cell? ⟨B, o + (k * 3 + j), none⟩ = (ntV L[k])[j]? := fun j hj => by
    obtain ⟨B', o', he, hB', hc⟩ := hL (k * 3 + j) (by omega)
    simp only [Option.some.injEq, Addr.mk.injEq] at he
    obtain ⟨rfl, rfl, -⟩ := he
    rw [← ntsV_get L k j hk hj, ← hc]
    exact hB.cell (p := ⟨B, o + (k * 3 + j), none⟩) (Nat.lt_of_lt_of_le hB' hn)
  exact ⟨B, o, rfl, Nat.lt_of_lt_of_le hBl hB.size, key 0 (by omega), key 1 (by omega), key 2 (by omega)⟩
end Go.Proofs.Ytfnolmlmmimehaa
end
