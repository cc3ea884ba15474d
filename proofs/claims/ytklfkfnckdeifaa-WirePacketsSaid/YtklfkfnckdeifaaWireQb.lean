/-
  The reader of bytes: a note, walked.
-/
import Derived.Test.YtklfkfnckdeifaaWireP
namespace Go.Proofs.Ytklfkfnckdeifaa
set_option linter.unusedSimpArgs false
set_option linter.unusedVariables false
open Go.RowKit
attribute [local irreducible] Ear.Pl.wpQ Ear.Pa.wpQ Ear.Fe.wpQ Ear.Fa.wpQ Ear.wd withinW numK heardK sumV newsK ntK newsC heardC manyK decS decN decH decR atK bytesN
set_option maxRecDepth 100000 in
set_option maxHeartbeats 16000000 in
theorem note_2 {w : World} {R B o cap : Nat} {l : List Int} {n c : Int} (h : RdAt w R B o cap 0 l) (hb : byteOk l) (h1 : 1 ≤ n) (h2 : n ≤ 100) (hl : l.length ≤ 5000) (hc : decC l n = c) (hx : l.getD 2 0 = 2 ∨ ¬ (1 ≤ l.getD 2 0 ∧ l.getD 2 0 ≤ 3)) :
    Calls Try.prog 43 #[.pointer (some ⟨R, 0, none⟩), .int .i64 n] w (notePost l n R w c) := by
  unfold decC at hc
  have HB := Lib.hid hb
  have H := Lib.hid h
  have hcap := h.cap
  have hBB : B < w.heap.size ∨ l.length = 0 := by
    rcases Nat.eq_zero_or_pos l.length with h0 | h0
    · exact .inr h0
    · exact .inl (h.size_b h0)
  obtain ⟨x0, hx0⟩ : ∃ x, l.getD 0 0 = x := ⟨_, rfl⟩
  obtain ⟨x1, hx1⟩ : ∃ x, l.getD 1 0 = x := ⟨_, rfl⟩
  obtain ⟨x2, hx2⟩ : ∃ x, l.getD 2 0 = x := ⟨_, rfl⟩
  obtain ⟨x3, hx3⟩ : ∃ x, l.getD 3 0 = x := ⟨_, rfl⟩
  obtain ⟨x4, hx4⟩ : ∃ x, l.getD 4 0 = x := ⟨_, rfl⟩
  rw [hx0, hx1, hx2, hx3, hx4] at hc
  rw [hx2] at hx
  have HX0 := Lib.hid hx0
  have HX1 := Lib.hid hx1
  have HX2 := Lib.hid hx2
  have HX3 := Lib.hid hx3
  have HX4 := Lib.hid hx4
  have HD := Lib.hid hc
  have hnn : (n == n) = true := beq_self_eq_true _
  clear h hb hc hx0 hx1 hx2 hx3 hx4
  go_enter Try.func43, Try.ntmps43
  go_wp2_with (fail)
  by_cases s2 : l.length < 2
  · have HCC := Lib.hid (show c = 76 from by have := HD.out; rw [if_pos s2] at this; exact this.symm)
    (with_reducible refine Calls.mono (nt_bshort (nt_start H.out hBB _) 2 rfl (by omega)) ?_)
    rintro e wx ⟨rfl, hkx⟩
    go_wp2_with (fail)
    exact ⟨rfl, fun h => by have := HCC.out; omega, fun _ => ⟨by rw [HCC.out], hkx⟩⟩
  replace HD := Lib.hid (by have := HD.out; rw [if_neg s2] at this; exact this)
  (with_reducible refine Calls.mono (nt_bytes (nt_start H.out hBB _) 2 rfl (by omega) (by omega)) ?_)
  rintro e wx ⟨rfl, hnx⟩
  (try simp only [List.set_cons_zero, List.set_cons_succ, Nat.zero_add, Nat.reduceAdd] at hnx)
  (try clear hF_c hF_f hF_l)
  have HN := Lib.hid hnx
  clear hnx
  have hF_c := HN.out.blk.cell
  have hF_f := HN.out.blk.frozen
  have hF_l := HN.out.blk.lt
  obtain ⟨a0, -, -⟩ := read_at HN.out.rd.lies HB.out 0 (by omega)
  obtain ⟨a1, -, -⟩ := read_at HN.out.rd.lies HB.out 1 (by omega)
  rw [HX0.out, Nat.add_zero] at a0
  rw [HX1.out] at a1
  by_cases sM : x0 = 101 ∧ x1 = 115
  rotate_left
  · have HCC := Lib.hid (show c = 70 from by have := HD.out; rw [if_neg sM] at this; exact this.symm)
    by_cases sm : x0 = 101
    · subst sm
      have b1 : (x1 == 115) = false := beq_eq_false_iff_ne.2 (fun h => sM ⟨rfl, h⟩)
      go_wp2_with (fail)
      (with_reducible refine Calls.mono (nt_need_no HN.out _) ?_)
      rintro e wx ⟨rfl, hkx⟩
      go_wp2_with (fail)
      exact ⟨rfl, fun h => by have := HCC.out; omega, fun _ => ⟨by rw [HCC.out], hkx⟩⟩
    · have b0 : (x0 == 101) = false := beq_eq_false_iff_ne.2 sm
      go_wp2_with (fail)
      (with_reducible refine Calls.mono (nt_need_no HN.out _) ?_)
      rintro e wx ⟨rfl, hkx⟩
      go_wp2_with (fail)
      exact ⟨rfl, fun h => by have := HCC.out; omega, fun _ => ⟨by rw [HCC.out], hkx⟩⟩
  replace HD := Lib.hid (by have := HD.out; rw [if_pos sM] at this; exact this)
  obtain ⟨rfl, rfl⟩ := sM
  go_wp2_with (fail)
  (with_reducible refine Calls.mono (nt_need_ok HN.out _) ?_)
  rintro e wx ⟨rfl, hnx⟩
  (try simp only [List.set_cons_zero, List.set_cons_succ, Nat.zero_add, Nat.reduceAdd] at hnx)
  (try clear hF_c hF_f hF_l); clear HN
  have HN := Lib.hid hnx
  clear hnx
  have hF_c := HN.out.blk.cell
  have hF_f := HN.out.blk.frozen
  have hF_l := HN.out.blk.lt
  clear a0 a1 HX0 HX1
  go_wp2_with (fail)
  by_cases s3 : l.length < 3
  · have HCC := Lib.hid (show c = 76 from by have := HD.out; rw [if_pos s3] at this; exact this.symm)
    (with_reducible refine Calls.mono (nt_short HN.out 1 rfl (by omega)) ?_)
    rintro e wx ⟨rfl, hkx⟩
    go_wp2_with (fail)
    exact ⟨rfl, fun h => by have := HCC.out; omega, fun _ => ⟨by rw [HCC.out], hkx⟩⟩
  replace HD := Lib.hid (by have := HD.out; rw [if_neg s3] at this; exact this)
  (with_reducible refine Calls.mono (nt_one HN.out HB.out (by omega) HX2.out) ?_)
  rintro e wx ⟨rfl, hnx⟩
  (try simp only [List.set_cons_zero, List.set_cons_succ, Nat.zero_add, Nat.reduceAdd] at hnx)
  (try clear hF_c hF_f hF_l); clear HN
  have HN := Lib.hid hnx
  clear hnx
  have hF_c := HN.out.blk.cell
  have hF_f := HN.out.blk.frozen
  have hF_l := HN.out.blk.lt
  by_cases sK : 1 ≤ x2 ∧ x2 ≤ 3
  rotate_left
  · have HCC := Lib.hid (show c = 71 from by have := HD.out; rw [if_neg sK] at this; exact this.symm)
    by_cases sk : 1 ≤ x2
    · have d1 : decide (1 ≤ x2) = true := decide_eq_true sk
      have d2 : decide (x2 ≤ 3) = false := decide_eq_false (fun h => sK ⟨sk, h⟩)
      go_wp2_with (fail)
      (with_reducible refine Calls.mono (nt_need_no (HN.out.set _ _) _) ?_)
      rintro e wx ⟨rfl, hkx⟩
      go_wp2_with (fail)
      exact ⟨rfl, fun h => by have := HCC.out; omega, fun _ => ⟨by rw [HCC.out], hkx⟩⟩
    · have d1 : decide (1 ≤ x2) = false := decide_eq_false sk
      go_wp2_with (fail)
      (with_reducible refine Calls.mono (nt_need_no (HN.out.set _ _) _) ?_)
      rintro e wx ⟨rfl, hkx⟩
      go_wp2_with (fail)
      exact ⟨rfl, fun h => by have := HCC.out; omega, fun _ => ⟨by rw [HCC.out], hkx⟩⟩
  replace HD := Lib.hid (by have := HD.out; rw [if_pos sK] at this; exact this)
  obtain ⟨sK1, sK2⟩ := sK
  have d1 : decide (1 ≤ x2) = true := decide_eq_true sK1
  have d2 : decide (x2 ≤ 3) = true := decide_eq_true sK2
  go_wp2_with (fail)
  (with_reducible refine Calls.mono (nt_need_ok (HN.out.set _ _) _) ?_)
  rintro e wx ⟨rfl, hnx⟩
  (try simp only [List.set_cons_zero, List.set_cons_succ, Nat.zero_add, Nat.reduceAdd] at hnx)
  (try clear hF_c hF_f hF_l); clear HN
  have HN := Lib.hid hnx
  clear hnx
  have hF_c := HN.out.blk.cell
  have hF_f := HN.out.blk.frozen
  have hF_l := HN.out.blk.lt
  clear d1 d2
  go_wp2_with (fail)
  by_cases s4 : l.length < 4
  · have HCC := Lib.hid (show c = 76 from by have := HD.out; rw [if_pos s4] at this; exact this.symm)
    (with_reducible refine Calls.mono (nt_short HN.out 1 rfl (by omega)) ?_)
    rintro e wx ⟨rfl, hkx⟩
    go_wp2_with (fail)
    exact ⟨rfl, fun h => by have := HCC.out; omega, fun _ => ⟨by rw [HCC.out], hkx⟩⟩
  replace HD := Lib.hid (by have := HD.out; rw [if_neg s4] at this; exact this)
  (with_reducible refine Calls.mono (nt_one HN.out HB.out (by omega) HX3.out) ?_)
  rintro e wx ⟨rfl, hnx⟩
  (try simp only [List.set_cons_zero, List.set_cons_succ, Nat.zero_add, Nat.reduceAdd] at hnx)
  (try clear hF_c hF_f hF_l); clear HN
  have HN := Lib.hid hnx
  clear hnx
  have hF_c := HN.out.blk.cell
  have hF_f := HN.out.blk.frozen
  have hF_l := HN.out.blk.lt
  by_cases sN : x3 = n
  rotate_left
  · have HCC := Lib.hid (show c = 102 from by have := HD.out; rw [if_neg sN] at this; exact this.symm)
    have b3 : (x3 == n) = false := beq_eq_false_iff_ne.2 sN
    go_wp2_with (fail)
    (with_reducible refine Calls.mono (nt_need_no HN.out _) ?_)
    rintro e wx ⟨rfl, hkx⟩
    go_wp2_with (fail)
    exact ⟨rfl, fun h => by have := HCC.out; omega, fun _ => ⟨by rw [HCC.out], hkx⟩⟩
  replace HD := Lib.hid (by have := HD.out; rw [if_pos sN] at this; exact this)
  subst sN
  go_wp2_with (fail)
  (with_reducible refine Calls.mono (nt_need_ok HN.out _) ?_)
  rintro e wx ⟨rfl, hnx⟩
  (try simp only [List.set_cons_zero, List.set_cons_succ, Nat.zero_add, Nat.reduceAdd] at hnx)
  (try clear hF_c hF_f hF_l); clear HN
  have HN := Lib.hid hnx
  clear hnx
  have hF_c := HN.out.blk.cell
  have hF_f := HN.out.blk.frozen
  have hF_l := HN.out.blk.lt
  go_wp2_with (fail)
  by_cases s5 : l.length < 5
  · have HCC := Lib.hid (show c = 76 from by have := HD.out; rw [if_pos s5] at this; exact this.symm)
    (with_reducible refine Calls.mono (nt_short HN.out 1 rfl (by omega)) ?_)
    rintro e wx ⟨rfl, hkx⟩
    go_wp2_with (fail)
    exact ⟨rfl, fun h => by have := HCC.out; omega, fun _ => ⟨by rw [HCC.out], hkx⟩⟩
  replace HD := Lib.hid (by have := HD.out; rw [if_neg s5] at this; exact this)
  (with_reducible refine Calls.mono (nt_one HN.out HB.out (by omega) HX4.out) ?_)
  rintro e wx ⟨rfl, hnx⟩
  (try simp only [List.set_cons_zero, List.set_cons_succ, Nat.zero_add, Nat.reduceAdd] at hnx)
  (try clear hF_c hF_f hF_l); clear HN
  have HN := Lib.hid hnx
  clear hnx
  have hF_c := HN.out.blk.cell
  have hF_f := HN.out.blk.frozen
  have hF_l := HN.out.blk.lt
  by_cases sF : x4 < x3
  rotate_left
  · have HCC := Lib.hid (show c = 72 from by have := HD.out; rw [if_neg sF] at this; exact this.symm)
    have d4 : decide (x4 < x3) = false := decide_eq_false sF
    go_wp2_with (fail)
    (with_reducible refine Calls.mono (nt_need_no (HN.out.set _ _) _) ?_)
    rintro e wx ⟨rfl, hkx⟩
    go_wp2_with (fail)
    exact ⟨rfl, fun h => by have := HCC.out; omega, fun _ => ⟨by rw [HCC.out], hkx⟩⟩
  replace HD := Lib.hid (by have := HD.out; rw [if_pos sF] at this; exact this)
  have d4 : decide (x4 < x3) = true := decide_eq_true sF
  go_wp2_with (fail)
  (with_reducible refine Calls.mono (nt_need_ok (HN.out.set _ _) _) ?_)
  rintro e wx ⟨rfl, hnx⟩
  (try simp only [List.set_cons_zero, List.set_cons_succ, Nat.zero_add, Nat.reduceAdd] at hnx)
  (try clear hF_c hF_f hF_l); clear HN
  have HN := Lib.hid hnx
  clear hnx
  have hF_c := HN.out.blk.cell
  have hF_f := HN.out.blk.frozen
  have hF_l := HN.out.blk.lt
  clear d4
  have hk3 : x2 = 1 ∨ x2 = 2 ∨ x2 = 3 := by omega
  rcases hk3 with rfl | rfl | rfl
  · exact absurd hx (by omega)
  · -- kind 2
    replace HD := Lib.hid (by have := HD.out; rw [if_neg (by decide)] at this; exact this)
    unfold decR at HD
    rw [HX2.out] at HD
    obtain ⟨rd, hrd⟩ : ∃ x, numK l 5 5 = x := ⟨_, rfl⟩
    rw [hrd] at HD
    have HRD := Lib.hid hrd
    clear hrd
    go_wp2_with (fail)
    by_cases s10 : l.length < 10
    · have HCC := Lib.hid (show c = 76 from by have := HD.out; rw [if_pos s10] at this; exact this.symm)
      (with_reducible refine Calls.mono (nt_short HN.out 5 rfl (by omega)) ?_)
      rintro e wx ⟨rfl, hkx⟩
      go_wp2_with (fail)
      exact ⟨rfl, fun h => by have := HCC.out; omega, fun _ => ⟨by rw [HCC.out], hkx⟩⟩
    replace HD := Lib.hid (by have := HD.out; rw [if_neg s10] at this; exact this)
    (with_reducible refine Calls.mono (nt_num HN.out HB.out 5 rfl (by omega) (by omega) (by omega)) ?_)
    rintro e wx ⟨rfl, hnx⟩
    (try simp only [List.set_cons_zero, List.set_cons_succ, Nat.zero_add, Nat.reduceAdd] at hnx)
    (try clear hF_c hF_f hF_l); clear HN
    have HN := Lib.hid hnx
    clear hnx
    have hF_c := HN.out.blk.cell
    have hF_f := HN.out.blk.frozen
    have hF_l := HN.out.blk.lt
    rw [HRD.out]
    by_cases sR : 1 ≤ rd ∧ rd ≤ 1099511627775
    rotate_left
    · have HCC := Lib.hid (show c = 73 from by have := HD.out; rw [if_neg sR] at this; exact this.symm)
      by_cases sr : 1 ≤ rd
      · have d1 : decide (1 ≤ rd) = true := decide_eq_true sr
        have d2 : decide (rd ≤ 1099511627775) = false := decide_eq_false (fun h => sR ⟨sr, h⟩)
        go_wp2_with (fail)
        (with_reducible refine Calls.mono (nt_need_no (HN.out.set _ _) _) ?_)
        rintro e wx ⟨rfl, hkx⟩
        go_wp2_with (fail)
        exact ⟨rfl, fun h => by have := HCC.out; omega, fun _ => ⟨by rw [HCC.out], hkx⟩⟩
      · have d1 : decide (1 ≤ rd) = false := decide_eq_false sr
        go_wp2_with (fail)
        (with_reducible refine Calls.mono (nt_need_no (HN.out.set _ _) _) ?_)
        rintro e wx ⟨rfl, hkx⟩
        go_wp2_with (fail)
        exact ⟨rfl, fun h => by have := HCC.out; omega, fun _ => ⟨by rw [HCC.out], hkx⟩⟩
    replace HD := Lib.hid (by have := HD.out; rw [if_pos sR] at this; exact this)
    obtain ⟨sR1, sR2⟩ := sR
    have d1 : decide (1 ≤ rd) = true := decide_eq_true sR1
    have d2 : decide (rd ≤ 1099511627775) = true := decide_eq_true sR2
    go_wp2_with (fail)
    (with_reducible refine Calls.mono (nt_need_ok (HN.out.set _ _) _) ?_)
    rintro e wx ⟨rfl, hnx⟩
    (try simp only [List.set_cons_zero, List.set_cons_succ, Nat.zero_add, Nat.reduceAdd] at hnx)
    (try clear hF_c hF_f hF_l); clear HN
    have HN := Lib.hid hnx
    clear hnx
    have hF_c := HN.out.blk.cell
    have hF_f := HN.out.blk.frozen
    have hF_l := HN.out.blk.lt
    clear d1 d2
    go_wp2_with (fail)
    replace HD := Lib.hid (by have := HD.out; (first | rw [if_pos rfl] at this | rw [if_pos trivial] at this); exact this)
    unfold decH at HD
    by_cases sH : heardC l x3 10 (bytesN x3) = 0
    rotate_left
    · have HCC := Lib.hid (show c = heardC l x3 10 (bytesN x3) from by have := HD.out; rw [if_neg sH] at this; exact this.symm)
      (with_reducible refine Calls.mono (nt_set_no HN.out HB.out h1 h2 sH) ?_)
      rintro e wx ⟨rfl, hkx⟩
      go_wp2_with (fail)
      exact ⟨rfl, fun h => by have := HCC.out; exact absurd (this.symm.trans h) sH, fun _ => ⟨by rw [HCC.out], hkx⟩⟩
    replace HD := Lib.hid (by have := HD.out; rw [if_pos sH] at this; exact this)
    (with_reducible refine Calls.mono (nt_set HN.out HB.out h1 h2 sH) ?_)
    rintro e wx ⟨rfl, hnx⟩
    (try simp only [List.set_cons_zero, List.set_cons_succ, Nat.zero_add, Nat.reduceAdd] at hnx)
    (try clear hF_c hF_f hF_l); clear HN
    have HN := Lib.hid hnx
    clear hnx
    have hF_c := HN.out.blk.cell
    have hF_f := HN.out.blk.frozen
    have hF_l := HN.out.blk.lt
    go_wp2_with (fail)
    unfold decN at HD
    by_cases sW : newsC l x3 (10 + bytesN x3) = 0
    rotate_left
    · have HCC := Lib.hid (show c = newsC l x3 (10 + bytesN x3) from by have := HD.out; rw [if_neg sW] at this; exact this.symm)
      (with_reducible refine Calls.mono (nt_news_no ((((HN.out.set _ _).set _ _).set _ _).set _ _) HB.out h2 sW) ?_)
      rintro e wx ⟨rfl, hkx⟩
      go_wp2_with (fail)
      exact ⟨rfl, fun h => by have := HCC.out; exact absurd (this.symm.trans h) sW, fun _ => ⟨by rw [HCC.out], hkx⟩⟩
    replace HD := Lib.hid (by have := HD.out; rw [if_pos sW] at this; exact this)
    (with_reducible refine Calls.mono (nt_news ((((HN.out.set _ _).set _ _).set _ _).set _ _) HB.out h2 sW) ?_)
    rintro e wx ⟨nb, nc, rfl, hnx⟩
    (try simp only [List.set_cons_zero, List.set_cons_succ] at hnx)
    clear hF_c hF_f hF_l HN
    have HN := Lib.hid hnx
    clear hnx
    have hF_c := HN.out.nt.blk.cell
    have hF_f := HN.out.nt.blk.frozen
    have hF_l := HN.out.nt.blk.lt
    go_wp2_with (fail)
    refine Ear.wp_world (fun W => NoAt w W R B o cap _ w.heap.size l _ _ nb nc _) (HN.out.set _ _) ?_
    rintro wy hny
    (try simp only [List.set_cons_zero, List.set_cons_succ] at hny)
    clear hF_c hF_f hF_l HN
    obtain ⟨Q, hQ⟩ : ∃ Q, (10 + bytesN x3) + 1 + manyK l (10 + bytesN x3) * 5 = Q := ⟨_, rfl⟩
    rw [hQ] at hny HD
    have HN := Lib.hid hny
    have HQ := Lib.hid hQ
    clear hny hQ
    obtain ⟨v, hv⟩ : ∃ v, sumV (l.take Q) = v := ⟨_, rfl⟩
    unfold decS at HD
    rw [hv] at HD
    have HV := Lib.hid hv
    clear hv
    have hF_c := HN.out.nt.blk.cell
    have hF_f := HN.out.nt.blk.frozen
    have hF_l := HN.out.nt.blk.lt
    have hQl := HN.out.nt.rd.le
    obtain ⟨q1, -, hr1⟩ := HN.out.nt.rd.blk
    have hr_c := hr1.cell
    have hr_l := hr1.lt
    have hsub : ((l.length : Int) - ((l.length - Q : Nat) : Int)) = (Q : Int) := by omega
    refine Ear.Pl.wp_region_qb 17 (by kernel_rfl) (by kernel_rfl) (fun C hC1 hC2 => ?_); simp only [List.take_succ_cons, List.take_zero, List.drop_succ_cons, List.drop_zero]
    (iterate 16 (refine Ear.Pl.wpQ_run (by rfl) ?_; apply Exists.intro; refine ⟨fun K Q hK w' hw' => ?_, ?_⟩; (focus (obtain ⟨hc', hf'⟩ := Ear.bcell (hC1.out w' hw'); simp only [Act.put, List.setIfInBounds_toArray, List.set_cons_succ, List.set_cons_zero] at hK; go_wp2; exact hw')); simp only [Act.put, List.setIfInBounds_toArray, List.set_cons_succ, List.set_cons_zero]))
    refine Ear.Pl.wpQ_run (by rfl) ?_; apply Exists.intro; refine ⟨fun K Q hK w' hw' => ?_, ?_⟩; (focus (simp only [Act.put, List.setIfInBounds_toArray, List.set_cons_succ, List.set_cons_zero] at hK; go_wp2_with (refine (no_sum (HN.out.call (((Below.refl _ _).drew).trans (hC1.out w' hw'))) HB.out hl HV.out hQl _).mono ?_; rintro e w'' ⟨rfl, hb''⟩); exact hC2.out _ _ hw' hb'')); simp only [Act.put, List.setIfInBounds_toArray, List.set_cons_succ, List.set_cons_zero]
    refine Ear.Pl.wpQ_nil ?_
    intro w6 hb6
    clear hC1 hC2
    have hnz := HN.out.call (((Below.refl _ _).drew).trans hb6)
    clear hb6 hr1 hr_c hr_l hF_c hF_f hF_l HN hsub
    have HN := Lib.hid hnz
    clear hnz
    have hF_c := HN.out.nt.blk.cell
    have hF_f := HN.out.nt.blk.frozen
    have hF_l := HN.out.nt.blk.lt
    go_wp2_with (fail)
    by_cases s20 : l.length < Q + 4
    · have HCC := Lib.hid (show c = 76 from by have := HD.out; rw [if_pos s20] at this; exact this.symm)
      (with_reducible refine Calls.mono (no_short HN.out 4 rfl s20) ?_)
      rintro e wx ⟨rfl, hkx⟩
      go_wp2_with (fail)
      exact ⟨rfl, fun h => by have := HCC.out; omega, fun _ => ⟨by rw [HCC.out], hkx⟩⟩
    replace HD := Lib.hid (by have := HD.out; rw [if_neg s20] at this; exact this)
    (with_reducible refine Calls.mono (no_num HN.out HB.out 4 rfl (by omega) (by omega) (by omega)) ?_)
    rintro e wx ⟨rfl, hnx⟩
    (try simp only [List.set_cons_zero, List.set_cons_succ, Nat.zero_add, Nat.reduceAdd] at hnx)
    (try clear hF_c hF_f hF_l); clear HN
    have HN := Lib.hid hnx
    clear hnx
    have hF_c := HN.out.nt.blk.cell
    have hF_f := HN.out.nt.blk.frozen
    have hF_l := HN.out.nt.blk.lt
    obtain ⟨y, hy⟩ : ∃ y, numK l Q 4 = y := ⟨_, rfl⟩
    rw [hy] at HD
    rw [hy]
    clear hy
    by_cases sS : y = v
    rotate_left
    · have HCC := Lib.hid (show c = 77 from by have := HD.out; rw [if_neg sS] at this; exact this.symm)
      have b3 : (y == v) = false := beq_eq_false_iff_ne.2 sS
      go_wp2_with (fail)
      (with_reducible refine Calls.mono (no_need_no HN.out _) ?_)
      rintro e wx ⟨rfl, hkx⟩
      go_wp2_with (fail)
      exact ⟨rfl, fun h => by have := HCC.out; omega, fun _ => ⟨by rw [HCC.out], hkx⟩⟩
    replace HD := Lib.hid (by have := HD.out; rw [if_pos sS] at this; exact this)
    subst sS
    have b3 : (y == y) = true := beq_self_eq_true _
    go_wp2_with (fail)
    (with_reducible refine Calls.mono (no_need_ok HN.out _) ?_)
    rintro e wx ⟨rfl, hnx⟩
    (try simp only [List.set_cons_zero, List.set_cons_succ, Nat.zero_add, Nat.reduceAdd] at hnx)
    (try clear hF_c hF_f hF_l); clear HN
    have HN := Lib.hid hnx
    clear hnx
    have hF_c := HN.out.nt.blk.cell
    have hF_f := HN.out.nt.blk.frozen
    have hF_l := HN.out.nt.blk.lt
    clear b3
    obtain ⟨q1, -, hr1⟩ := HN.out.nt.rd.blk
    have hr_c := hr1.cell
    have hr_l := hr1.lt
    by_cases sL : Q + 4 = l.length
    rotate_left
    · have HCC := Lib.hid (show c = 2 from by have := HD.out; rw [if_neg sL] at this; exact this.symm)
      have b4 : (l.length - (Q + 4) == 0) = false := beq_eq_false_iff_ne.2 (by omega)
      have b5 : (((l.length - (Q + 4) : Nat) : Int) == 0) = false := beq_eq_false_iff_ne.2 (by omega)
      go_wp2_with (fail)
      (with_reducible refine Calls.mono (no_need_no HN.out _) ?_)
      rintro e wx ⟨rfl, hkx⟩
      go_wp2_with (fail)
      exact ⟨rfl, fun h => by have := HCC.out; omega, fun _ => ⟨by rw [HCC.out], hkx⟩⟩
    replace HD := Lib.hid (by have := HD.out; rw [if_pos sL] at this; exact this)
    have b6 : l.length - (Q + 4) = 0 := by omega
    go_wp2_with (fail)
    (with_reducible refine Calls.mono (no_need_ok HN.out _) ?_)
    rintro e wx ⟨rfl, hnx⟩
    (try simp only [List.set_cons_zero, List.set_cons_succ, Nat.zero_add, Nat.reduceAdd] at hnx)
    (try clear hF_c hF_f hF_l); clear HN
    have HN := Lib.hid hnx
    clear hnx
    have hF_c := HN.out.nt.blk.cell
    have hF_f := HN.out.nt.blk.frozen
    have hF_l := HN.out.nt.blk.lt
    clear b6 hr1 hr_c hr_l
    go_wp2
    go_ret
    exact ⟨fun _ => ⟨nb, nc, (congrArg Ending.returned (noteV_2 HX2.out HX4.out HRD.out)).symm, by rw [atK_2 HX2.out]; exact owns_base HN.out.own (by omega), HN.out.nt.keep⟩, fun h => absurd HD.out.symm h⟩
  · exact absurd hx (by omega)
end Go.Proofs.Ytklfkfnckdeifaa
