/-
  Bytes that are decoded are those of the note that they say, and of no other number of nodes.
-/
import Derived.Test.YtklfkfnckdeifaaWireU
namespace Go.Proofs.Ytklfkfnckdeifaa
set_option linter.unusedSimpArgs false
set_option linter.unusedVariables false
open Go.RowKit
attribute [local irreducible] Ear.Pl.wpQ Ear.Pa.wpQ Ear.Fe.wpQ Ear.Fa.wpQ sumP sumV digit putL setL by8 orL Ear.wd Ear.one Ear.clean riseFrom validN withinW newsL noteL bodyL bytesOf noteE bytesC numK heardK newsK ntK manyK atK bytesN newsD
attribute [local go_sem] ta_Query_Query ta_Reply_Query ta_Rumor_Query ta_nil_Query ta_Query_Reply ta_Reply_Reply ta_Rumor_Reply ta_nil_Reply ta_Query_Rumor ta_Reply_Rumor ta_Rumor_Rumor ta_nil_Rumor eqn_Query eqn_Reply eqn_Rumor eqn_nil
/-- Of another number of nodes the bytes are refused. -/
theorem dec_other {l : List Int} {n m : Int} (h : decodeC l n = 0) (hm : m ≠ n) : decodeC l m = 102 ∨ decodeC l m = 1 := by
  obtain ⟨h1, h2, hd⟩ := decode_ok h
  have hlen := hd.len
  have hk := hd.kind
  unfold decodeC
  by_cases hr : m < 1 ∨ 100 < m
  · rw [if_pos hr]; exact .inr rfl
  · rw [if_neg hr, if_neg (by omega)]
    left
    unfold decC
    rw [if_neg (by omega), if_pos ⟨hd.m0, hd.m1⟩, if_neg (by omega), if_pos (by omega), if_neg (by omega), if_neg (by rw [hd.size]; exact fun e => hm e.symm)]
attribute [local irreducible] decodeC
set_option maxRecDepth 100000 in
set_option maxHeartbeats 1000000 in
theorem Taken_long {N : Nat} {base : Option Addr} {cap : Nat} {n m : Int} {w : World} (h : 5000 < N) :
    Calls Try.prog 8 #[.slice base N cap, .int .i64 n, .int .i64 m] w fun e w' => e = .returned (.bool true) ∧ Below w.heap.size w w' := by
  have hd : decide ((5000 : Int) < (N : Int)) = true := decide_eq_true (by omega)
  have hd2 : decide (5000 < N) = true := decide_eq_true (by omega)
  go_enter Try.func8, Try.ntmps8
  go_wp2_with (go_at_call 15; (with_reducible refine Calls.mono (alive7 _) ?_); rintro e w2 ⟨rfl, hb2⟩; have hB' : Below w.heap.size w w2 := Below.trans (by (repeat' (first | (with_reducible exact Below.refl _ _) | (with_reducible assumption) | (show Below 0 _ _; with_reducible refine Below.mono (by assumption) (Nat.zero_le _)) | (with_reducible refine below_setRow ?_ ?_ _) | (with_reducible refine Below.alloc ?_ ?_ _) | (with_reducible refine Below.drew ?_) | (with_reducible refine Below.setCell ?_ ?_ _) | (with_reducible refine Below.frame ?_ _) | (with_reducible exact Nat.le_refl _) | omega | (simp only [World.size_alloc, World.size_setCell, World.size_drew, setRow_size]; omega) | (simp; omega) | (simp; done)))) (hb2.mono (by (try simp only [World.size_alloc, World.size_setCell, World.size_drew, setRow_size]); omega)); clear hb2; (try clear hB hs); have hB := hB'; clear hB'; have hs := hB.size)
  go_ret
  exact ⟨rfl, hB⟩
set_option maxRecDepth 100000 in
set_option maxHeartbeats 4000000 in
theorem Taken_no {l : List Int} {n m : Int} {base : Option Addr} {cap : Nat} {w : World} (hb : byteOk l) (hl : LiesV (bytesV l) base w) (hcap : l.length ≤ cap) (h5 : l.length ≤ 5000) {c : Int} (hc : decodeC l n = c) (h0 : c ≠ 0) :
    Calls Try.prog 8 #[.slice base l.length cap, .int .i64 n, .int .i64 m] w fun e w' => e = .returned (.bool true) ∧ Below w.heap.size w w' := by
  have HC := Lib.hid hc
  have hc0 : (c == 0) = false := beq_eq_false_iff_ne.2 h0
  have hc1 : (c != 0) = true := bne_iff_ne.2 h0
  have HB := Lib.hid hb
  have HL := Lib.hid hl
  have HN := Lib.hid (show l.length ≤ 140737488351232 by omega)
  have HN2 := Lib.hid (show l.length ≤ 140737488355328 by omega)
  have hd : decide ((5000 : Int) < (l.length : Int)) = false := decide_eq_false (by omega)
  have hd2 : decide (5000 < l.length) = false := decide_eq_false (by omega)
  clear hb hl
  go_enter Try.func8, Try.ntmps8
  go_wp2_with (first
    | (go_at_call 24; (with_reducible refine Calls.mono (Decode_no HB.out HL.out hcap HN.out HC.out h0) ?_); rintro e w1 ⟨rfl, hb1⟩; have hB := hb1; have hs := hB.size; clear hb1)
    | (go_at_call 15; (with_reducible refine Calls.mono (alive7 _) ?_); rintro e w2 ⟨rfl, hb2⟩; have hB' : Below w.heap.size w w2 := Below.trans (by (repeat' (first | (with_reducible exact Below.refl _ _) | (with_reducible assumption) | (show Below 0 _ _; with_reducible refine Below.mono (by assumption) (Nat.zero_le _)) | (with_reducible refine below_setRow ?_ ?_ _) | (with_reducible refine Below.alloc ?_ ?_ _) | (with_reducible refine Below.drew ?_) | (with_reducible refine Below.setCell ?_ ?_ _) | (with_reducible refine Below.frame ?_ _) | (with_reducible exact Nat.le_refl _) | omega | (simp only [World.size_alloc, World.size_setCell, World.size_drew, setRow_size]; omega) | (simp; omega) | (simp; done)))) (hb2.mono (by (try simp only [World.size_alloc, World.size_setCell, World.size_drew, setRow_size]); omega)); clear hb2; (try clear hB hs); have hB := hB'; clear hB'; have hs := hB.size))
  go_ret
  exact ⟨rfl, hB⟩
set_option maxRecDepth 100000 in
set_option maxHeartbeats 8000000 in
theorem Taken_Q1 {l : List Int} {n m : Int} {base : Option Addr} {cap : Nat} {w : World} (hb : byteOk l) (hl : LiesV (bytesV l) base w) (hcap : l.length ≤ cap) (h5 : l.length ≤ 5000) (hm : m = n) (hc : decodeC l n = 0) (hk : l.getD 2 0 = 1) :
    Calls Try.prog 8 #[.slice base l.length cap, .int .i64 n, .int .i64 m] w fun e w' => e = .returned (.bool true) ∧ Below w.heap.size w w' := by
  subst hm
  have em : (m == m) = true := beq_self_eq_true _
  obtain ⟨h1, -, hdec⟩ := decode_ok hc
  obtain ⟨from_, hf⟩ : ∃ x, l.getD 4 0 = x := ⟨_, rfl⟩
  obtain ⟨L, hL⟩ : ∃ L, newsD l m = L := ⟨_, rfl⟩
  obtain ⟨round, hr⟩ : ∃ x, numK l 5 5 = x := ⟨_, rfl⟩
  have HR := Lib.hid hr
  have hE := wtaken_ok hb h1.1 h1.2 hdec
  have hT := wtaken hb h1.1 h1.2 hdec
  rw [hk, hf, hL, show roundD l = round by unfold roundD; rw [if_neg (by omega)]; exact hr, show heardD l m = 0#128 by unfold heardD; rw [if_neg (by omega)]] at hE hT
  have hBS := (bytesC_good hE).trans hT
  have hL5 : L.length ≤ 5000 := by
    have hr7 := (note_okE hE).2.2.2.2.2.2
    have := (rise_each L (-1) hr7).2
    omega
  have HC := Lib.hid hc
  have HK := Lib.hid hk
  have HF := Lib.hid hf
  have HW := Lib.hid hL
  have HE := Lib.hid hE
  have HBS := Lib.hid hBS
  clear h1 hdec hE hT hBS
  clear hk hc hf hL hr
  have HB := Lib.hid hb
  have HL := Lib.hid hl
  have HN := Lib.hid (show l.length ≤ 140737488351232 by omega)
  have HN2 := Lib.hid (show l.length ≤ 140737488355328 by omega)
  have hd : decide ((5000 : Int) < (l.length : Int)) = false := decide_eq_false (by omega)
  have hd2 : decide (5000 < l.length) = false := decide_eq_false (by omega)
  clear hb hl
  go_enter Try.func8, Try.ntmps8
  go_wp2_with (first
    | (go_at_call 24; (with_reducible refine Calls.mono (Decode_Q HB.out HL.out hcap HN.out HC.out HK.out HF.out HR.out HW.out) ?_); rintro e w1 ⟨nb, nc, rfl, hl1, hb1⟩; have hB := hb1; have hs := hB.size; have HO := Lib.hid hl1; clear hb1 hl1)
    | (go_at_call 37; (with_reducible refine Calls.mono (BytesQ HE.out HBS.out hL5 HO.out) ?_); rintro e w3 ⟨b3, c3, rfl, hown3, hb3⟩; have HO3 := Lib.hid (owns_liesV hown3); have hB' : Below w.heap.size w w3 := Below.trans (by (repeat' (first | (with_reducible exact Below.refl _ _) | (with_reducible assumption) | (show Below 0 _ _; with_reducible refine Below.mono (by assumption) (Nat.zero_le _)) | (with_reducible refine below_setRow ?_ ?_ _) | (with_reducible refine Below.alloc ?_ ?_ _) | (with_reducible refine Below.drew ?_) | (with_reducible refine Below.setCell ?_ ?_ _) | (with_reducible refine Below.frame ?_ _) | (with_reducible exact Nat.le_refl _) | omega | (simp only [World.size_alloc, World.size_setCell, World.size_drew, setRow_size]; omega) | (simp; omega) | (simp; done)))) (hb3.mono (by (try simp only [World.size_alloc, World.size_setCell, World.size_drew, setRow_size]); omega)); clear hb3; (try clear hB hs); have hB := hB'; clear hB'; have hs := hB.size; clear hown3)
    | (go_at_call 22; (with_reducible refine Calls.mono (SameBytes_eq l _ _ _ _ _ HN2.out (HL.out.below hB) HO3.out) ?_); rintro e w4 ⟨rfl, hb4⟩; have hB' : Below w.heap.size w w4 := Below.trans (by (repeat' (first | (with_reducible exact Below.refl _ _) | (with_reducible assumption) | (show Below 0 _ _; with_reducible refine Below.mono (by assumption) (Nat.zero_le _)) | (with_reducible refine below_setRow ?_ ?_ _) | (with_reducible refine Below.alloc ?_ ?_ _) | (with_reducible refine Below.drew ?_) | (with_reducible refine Below.setCell ?_ ?_ _) | (with_reducible refine Below.frame ?_ _) | (with_reducible exact Nat.le_refl _) | omega | (simp only [World.size_alloc, World.size_setCell, World.size_drew, setRow_size]; omega) | (simp; omega) | (simp; done)))) (hb4.mono (by (try simp only [World.size_alloc, World.size_setCell, World.size_drew, setRow_size]); omega)); clear hb4; (try clear hB hs); have hB := hB'; clear hB'; have hs := hB.size)
    | (go_at_call 15; (with_reducible refine Calls.mono (alive7 _) ?_); rintro e w5 ⟨rfl, hb5⟩; have hB' : Below w.heap.size w w5 := Below.trans (by (repeat' (first | (with_reducible exact Below.refl _ _) | (with_reducible assumption) | (show Below 0 _ _; with_reducible refine Below.mono (by assumption) (Nat.zero_le _)) | (with_reducible refine below_setRow ?_ ?_ _) | (with_reducible refine Below.alloc ?_ ?_ _) | (with_reducible refine Below.drew ?_) | (with_reducible refine Below.setCell ?_ ?_ _) | (with_reducible refine Below.frame ?_ _) | (with_reducible exact Nat.le_refl _) | omega | (simp only [World.size_alloc, World.size_setCell, World.size_drew, setRow_size]; omega) | (simp; omega) | (simp; done)))) (hb5.mono (by (try simp only [World.size_alloc, World.size_setCell, World.size_drew, setRow_size]); omega)); clear hb5; (try clear hB hs); have hB := hB'; clear hB'; have hs := hB.size))
  go_ret
  exact ⟨rfl, hB⟩
set_option maxRecDepth 100000 in
set_option maxHeartbeats 8000000 in
theorem Taken_Q2 {l : List Int} {n m : Int} {base : Option Addr} {cap : Nat} {w : World} (hb : byteOk l) (hl : LiesV (bytesV l) base w) (hcap : l.length ≤ cap) (h5 : l.length ≤ 5000) {g : Int} (hm : m ≠ n) (hg : decodeC l m = g) (hg2 : g = 102 ∨ g = 1) (hc : decodeC l n = 0) (hk : l.getD 2 0 = 1) :
    Calls Try.prog 8 #[.slice base l.length cap, .int .i64 n, .int .i64 m] w fun e w' => e = .returned (.bool true) ∧ Below w.heap.size w w' := by
  have em : (m == n) = false := beq_eq_false_iff_ne.2 hm
  have HG := Lib.hid hg
  clear hg
  have hg0 : g ≠ 0 := by omega
  obtain ⟨h1, -, hdec⟩ := decode_ok hc
  obtain ⟨from_, hf⟩ : ∃ x, l.getD 4 0 = x := ⟨_, rfl⟩
  obtain ⟨L, hL⟩ : ∃ L, newsD l n = L := ⟨_, rfl⟩
  obtain ⟨round, hr⟩ : ∃ x, numK l 5 5 = x := ⟨_, rfl⟩
  have HR := Lib.hid hr
  have hE := wtaken_ok hb h1.1 h1.2 hdec
  have hT := wtaken hb h1.1 h1.2 hdec
  rw [hk, hf, hL, show roundD l = round by unfold roundD; rw [if_neg (by omega)]; exact hr, show heardD l n = 0#128 by unfold heardD; rw [if_neg (by omega)]] at hE hT
  have hBS := (bytesC_good hE).trans hT
  have hL5 : L.length ≤ 5000 := by
    have hr7 := (note_okE hE).2.2.2.2.2.2
    have := (rise_each L (-1) hr7).2
    omega
  have HC := Lib.hid hc
  have HK := Lib.hid hk
  have HF := Lib.hid hf
  have HW := Lib.hid hL
  have HE := Lib.hid hE
  have HBS := Lib.hid hBS
  clear h1 hdec hE hT hBS
  clear hk hc hf hL hr
  have HB := Lib.hid hb
  have HL := Lib.hid hl
  have HN := Lib.hid (show l.length ≤ 140737488351232 by omega)
  have HN2 := Lib.hid (show l.length ≤ 140737488355328 by omega)
  have hd : decide ((5000 : Int) < (l.length : Int)) = false := decide_eq_false (by omega)
  have hd2 : decide (5000 < l.length) = false := decide_eq_false (by omega)
  clear hb hl
  rcases hg2 with rfl | rfl
  all_goals (
    go_enter Try.func8, Try.ntmps8
    go_wp2_with (first
      | (go_at_call 24; (with_reducible refine Calls.mono (Decode_Q HB.out HL.out hcap HN.out HC.out HK.out HF.out HR.out HW.out) ?_); rintro e w1 ⟨nb, nc, rfl, hl1, hb1⟩; have hB := hb1; have hs := hB.size; have HO := Lib.hid hl1; clear hb1 hl1)
      | (go_at_call 24; (with_reducible refine Calls.mono (Decode_no HB.out (HL.out.below hB) hcap HN.out HG.out hg0) ?_); rintro e w6 ⟨rfl, hb6⟩; have hB' : Below w.heap.size w w6 := Below.trans (by (repeat' (first | (with_reducible exact Below.refl _ _) | (with_reducible assumption) | (show Below 0 _ _; with_reducible refine Below.mono (by assumption) (Nat.zero_le _)) | (with_reducible refine below_setRow ?_ ?_ _) | (with_reducible refine Below.alloc ?_ ?_ _) | (with_reducible refine Below.drew ?_) | (with_reducible refine Below.setCell ?_ ?_ _) | (with_reducible refine Below.frame ?_ _) | (with_reducible exact Nat.le_refl _) | omega | (simp only [World.size_alloc, World.size_setCell, World.size_drew, setRow_size]; omega) | (simp; omega) | (simp; done)))) (hb6.mono (by (try simp only [World.size_alloc, World.size_setCell, World.size_drew, setRow_size]); omega)); clear hb6; (try clear hB hs); have hB := hB'; clear hB'; have hs := hB.size)
      | (go_at_call 37; (with_reducible refine Calls.mono (BytesQ HE.out HBS.out hL5 HO.out) ?_); rintro e w3 ⟨b3, c3, rfl, hown3, hb3⟩; have HO3 := Lib.hid (owns_liesV hown3); have hB' : Below w.heap.size w w3 := Below.trans (by (repeat' (first | (with_reducible exact Below.refl _ _) | (with_reducible assumption) | (show Below 0 _ _; with_reducible refine Below.mono (by assumption) (Nat.zero_le _)) | (with_reducible refine below_setRow ?_ ?_ _) | (with_reducible refine Below.alloc ?_ ?_ _) | (with_reducible refine Below.drew ?_) | (with_reducible refine Below.setCell ?_ ?_ _) | (with_reducible refine Below.frame ?_ _) | (with_reducible exact Nat.le_refl _) | omega | (simp only [World.size_alloc, World.size_setCell, World.size_drew, setRow_size]; omega) | (simp; omega) | (simp; done)))) (hb3.mono (by (try simp only [World.size_alloc, World.size_setCell, World.size_drew, setRow_size]); omega)); clear hb3; (try clear hB hs); have hB := hB'; clear hB'; have hs := hB.size; clear hown3)
      | (go_at_call 22; (with_reducible refine Calls.mono (SameBytes_eq l _ _ _ _ _ HN2.out (HL.out.below hB) HO3.out) ?_); rintro e w4 ⟨rfl, hb4⟩; have hB' : Below w.heap.size w w4 := Below.trans (by (repeat' (first | (with_reducible exact Below.refl _ _) | (with_reducible assumption) | (show Below 0 _ _; with_reducible refine Below.mono (by assumption) (Nat.zero_le _)) | (with_reducible refine below_setRow ?_ ?_ _) | (with_reducible refine Below.alloc ?_ ?_ _) | (with_reducible refine Below.drew ?_) | (with_reducible refine Below.setCell ?_ ?_ _) | (with_reducible refine Below.frame ?_ _) | (with_reducible exact Nat.le_refl _) | omega | (simp only [World.size_alloc, World.size_setCell, World.size_drew, setRow_size]; omega) | (simp; omega) | (simp; done)))) (hb4.mono (by (try simp only [World.size_alloc, World.size_setCell, World.size_drew, setRow_size]); omega)); clear hb4; (try clear hB hs); have hB := hB'; clear hB'; have hs := hB.size)
      | (go_at_call 15; (with_reducible refine Calls.mono (alive7 _) ?_); rintro e w5 ⟨rfl, hb5⟩; have hB' : Below w.heap.size w w5 := Below.trans (by (repeat' (first | (with_reducible exact Below.refl _ _) | (with_reducible assumption) | (show Below 0 _ _; with_reducible refine Below.mono (by assumption) (Nat.zero_le _)) | (with_reducible refine below_setRow ?_ ?_ _) | (with_reducible refine Below.alloc ?_ ?_ _) | (with_reducible refine Below.drew ?_) | (with_reducible refine Below.setCell ?_ ?_ _) | (with_reducible refine Below.frame ?_ _) | (with_reducible exact Nat.le_refl _) | omega | (simp only [World.size_alloc, World.size_setCell, World.size_drew, setRow_size]; omega) | (simp; omega) | (simp; done)))) (hb5.mono (by (try simp only [World.size_alloc, World.size_setCell, World.size_drew, setRow_size]); omega)); clear hb5; (try clear hB hs); have hB := hB'; clear hB'; have hs := hB.size))
    go_ret
    exact ⟨rfl, hB⟩)
set_option maxRecDepth 100000 in
set_option maxHeartbeats 8000000 in
theorem Taken_P1 {l : List Int} {n m : Int} {base : Option Addr} {cap : Nat} {w : World} (hb : byteOk l) (hl : LiesV (bytesV l) base w) (hcap : l.length ≤ cap) (h5 : l.length ≤ 5000) (hm : m = n) (hc : decodeC l n = 0) (hk : l.getD 2 0 = 2) :
    Calls Try.prog 8 #[.slice base l.length cap, .int .i64 n, .int .i64 m] w fun e w' => e = .returned (.bool true) ∧ Below w.heap.size w w' := by
  subst hm
  have em : (m == m) = true := beq_self_eq_true _
  obtain ⟨h1, -, hdec⟩ := decode_ok hc
  obtain ⟨from_, hf⟩ : ∃ x, l.getD 4 0 = x := ⟨_, rfl⟩
  obtain ⟨L, hL⟩ : ∃ L, newsD l m = L := ⟨_, rfl⟩
  obtain ⟨round, hr⟩ : ∃ x, numK l 5 5 = x := ⟨_, rfl⟩
  have HR := Lib.hid hr
  obtain ⟨heard, hh⟩ : ∃ x, heardK l 10 (bytesN m) = x := ⟨_, rfl⟩
  have HH := Lib.hid hh
  have hE := wtaken_ok hb h1.1 h1.2 hdec
  have hT := wtaken hb h1.1 h1.2 hdec
  rw [hk, hf, hL, show roundD l = round by unfold roundD; rw [if_neg (by omega)]; exact hr, show heardD l m = heard by unfold heardD; rw [if_pos hk]; exact hh] at hE hT
  have hBS := (bytesC_good hE).trans hT
  have hL5 : L.length ≤ 5000 := by
    have hr7 := (note_okE hE).2.2.2.2.2.2
    have := (rise_each L (-1) hr7).2
    omega
  have HC := Lib.hid hc
  have HK := Lib.hid hk
  have HF := Lib.hid hf
  have HW := Lib.hid hL
  have HE := Lib.hid hE
  have HBS := Lib.hid hBS
  clear h1 hdec hE hT hBS
  clear hk hc hf hL hr hh
  have HB := Lib.hid hb
  have HL := Lib.hid hl
  have HN := Lib.hid (show l.length ≤ 140737488351232 by omega)
  have HN2 := Lib.hid (show l.length ≤ 140737488355328 by omega)
  have hd : decide ((5000 : Int) < (l.length : Int)) = false := decide_eq_false (by omega)
  have hd2 : decide (5000 < l.length) = false := decide_eq_false (by omega)
  clear hb hl
  go_enter Try.func8, Try.ntmps8
  go_wp2_with (first
    | (go_at_call 24; (with_reducible refine Calls.mono (Decode_P HB.out HL.out hcap HN.out HC.out HK.out HF.out HR.out HH.out HW.out) ?_); rintro e w1 ⟨nb, nc, rfl, hl1, hb1⟩; have hB := hb1; have hs := hB.size; have HO := Lib.hid hl1; clear hb1 hl1)
    | (go_at_call 97; (with_reducible refine Calls.mono (BytesP HE.out HBS.out hL5 HO.out) ?_); rintro e w3 ⟨b3, c3, rfl, hown3, hb3⟩; have HO3 := Lib.hid (owns_liesV hown3); have hB' : Below w.heap.size w w3 := Below.trans (by (repeat' (first | (with_reducible exact Below.refl _ _) | (with_reducible assumption) | (show Below 0 _ _; with_reducible refine Below.mono (by assumption) (Nat.zero_le _)) | (with_reducible refine below_setRow ?_ ?_ _) | (with_reducible refine Below.alloc ?_ ?_ _) | (with_reducible refine Below.drew ?_) | (with_reducible refine Below.setCell ?_ ?_ _) | (with_reducible refine Below.frame ?_ _) | (with_reducible exact Nat.le_refl _) | omega | (simp only [World.size_alloc, World.size_setCell, World.size_drew, setRow_size]; omega) | (simp; omega) | (simp; done)))) (hb3.mono (by (try simp only [World.size_alloc, World.size_setCell, World.size_drew, setRow_size]); omega)); clear hb3; (try clear hB hs); have hB := hB'; clear hB'; have hs := hB.size; clear hown3)
    | (go_at_call 22; (with_reducible refine Calls.mono (SameBytes_eq l _ _ _ _ _ HN2.out (HL.out.below hB) HO3.out) ?_); rintro e w4 ⟨rfl, hb4⟩; have hB' : Below w.heap.size w w4 := Below.trans (by (repeat' (first | (with_reducible exact Below.refl _ _) | (with_reducible assumption) | (show Below 0 _ _; with_reducible refine Below.mono (by assumption) (Nat.zero_le _)) | (with_reducible refine below_setRow ?_ ?_ _) | (with_reducible refine Below.alloc ?_ ?_ _) | (with_reducible refine Below.drew ?_) | (with_reducible refine Below.setCell ?_ ?_ _) | (with_reducible refine Below.frame ?_ _) | (with_reducible exact Nat.le_refl _) | omega | (simp only [World.size_alloc, World.size_setCell, World.size_drew, setRow_size]; omega) | (simp; omega) | (simp; done)))) (hb4.mono (by (try simp only [World.size_alloc, World.size_setCell, World.size_drew, setRow_size]); omega)); clear hb4; (try clear hB hs); have hB := hB'; clear hB'; have hs := hB.size)
    | (go_at_call 15; (with_reducible refine Calls.mono (alive7 _) ?_); rintro e w5 ⟨rfl, hb5⟩; have hB' : Below w.heap.size w w5 := Below.trans (by (repeat' (first | (with_reducible exact Below.refl _ _) | (with_reducible assumption) | (show Below 0 _ _; with_reducible refine Below.mono (by assumption) (Nat.zero_le _)) | (with_reducible refine below_setRow ?_ ?_ _) | (with_reducible refine Below.alloc ?_ ?_ _) | (with_reducible refine Below.drew ?_) | (with_reducible refine Below.setCell ?_ ?_ _) | (with_reducible refine Below.frame ?_ _) | (with_reducible exact Nat.le_refl _) | omega | (simp only [World.size_alloc, World.size_setCell, World.size_drew, setRow_size]; omega) | (simp; omega) | (simp; done)))) (hb5.mono (by (try simp only [World.size_alloc, World.size_setCell, World.size_drew, setRow_size]); omega)); clear hb5; (try clear hB hs); have hB := hB'; clear hB'; have hs := hB.size))
  go_ret
  exact ⟨rfl, hB⟩
set_option maxRecDepth 100000 in
set_option maxHeartbeats 8000000 in
theorem Taken_P2 {l : List Int} {n m : Int} {base : Option Addr} {cap : Nat} {w : World} (hb : byteOk l) (hl : LiesV (bytesV l) base w) (hcap : l.length ≤ cap) (h5 : l.length ≤ 5000) {g : Int} (hm : m ≠ n) (hg : decodeC l m = g) (hg2 : g = 102 ∨ g = 1) (hc : decodeC l n = 0) (hk : l.getD 2 0 = 2) :
    Calls Try.prog 8 #[.slice base l.length cap, .int .i64 n, .int .i64 m] w fun e w' => e = .returned (.bool true) ∧ Below w.heap.size w w' := by
  have em : (m == n) = false := beq_eq_false_iff_ne.2 hm
  have HG := Lib.hid hg
  clear hg
  have hg0 : g ≠ 0 := by omega
  obtain ⟨h1, -, hdec⟩ := decode_ok hc
  obtain ⟨from_, hf⟩ : ∃ x, l.getD 4 0 = x := ⟨_, rfl⟩
  obtain ⟨L, hL⟩ : ∃ L, newsD l n = L := ⟨_, rfl⟩
  obtain ⟨round, hr⟩ : ∃ x, numK l 5 5 = x := ⟨_, rfl⟩
  have HR := Lib.hid hr
  obtain ⟨heard, hh⟩ : ∃ x, heardK l 10 (bytesN n) = x := ⟨_, rfl⟩
  have HH := Lib.hid hh
  have hE := wtaken_ok hb h1.1 h1.2 hdec
  have hT := wtaken hb h1.1 h1.2 hdec
  rw [hk, hf, hL, show roundD l = round by unfold roundD; rw [if_neg (by omega)]; exact hr, show heardD l n = heard by unfold heardD; rw [if_pos hk]; exact hh] at hE hT
  have hBS := (bytesC_good hE).trans hT
  have hL5 : L.length ≤ 5000 := by
    have hr7 := (note_okE hE).2.2.2.2.2.2
    have := (rise_each L (-1) hr7).2
    omega
  have HC := Lib.hid hc
  have HK := Lib.hid hk
  have HF := Lib.hid hf
  have HW := Lib.hid hL
  have HE := Lib.hid hE
  have HBS := Lib.hid hBS
  clear h1 hdec hE hT hBS
  clear hk hc hf hL hr hh
  have HB := Lib.hid hb
  have HL := Lib.hid hl
  have HN := Lib.hid (show l.length ≤ 140737488351232 by omega)
  have HN2 := Lib.hid (show l.length ≤ 140737488355328 by omega)
  have hd : decide ((5000 : Int) < (l.length : Int)) = false := decide_eq_false (by omega)
  have hd2 : decide (5000 < l.length) = false := decide_eq_false (by omega)
  clear hb hl
  rcases hg2 with rfl | rfl
  all_goals (
    go_enter Try.func8, Try.ntmps8
    go_wp2_with (first
      | (go_at_call 24; (with_reducible refine Calls.mono (Decode_P HB.out HL.out hcap HN.out HC.out HK.out HF.out HR.out HH.out HW.out) ?_); rintro e w1 ⟨nb, nc, rfl, hl1, hb1⟩; have hB := hb1; have hs := hB.size; have HO := Lib.hid hl1; clear hb1 hl1)
      | (go_at_call 24; (with_reducible refine Calls.mono (Decode_no HB.out (HL.out.below hB) hcap HN.out HG.out hg0) ?_); rintro e w6 ⟨rfl, hb6⟩; have hB' : Below w.heap.size w w6 := Below.trans (by (repeat' (first | (with_reducible exact Below.refl _ _) | (with_reducible assumption) | (show Below 0 _ _; with_reducible refine Below.mono (by assumption) (Nat.zero_le _)) | (with_reducible refine below_setRow ?_ ?_ _) | (with_reducible refine Below.alloc ?_ ?_ _) | (with_reducible refine Below.drew ?_) | (with_reducible refine Below.setCell ?_ ?_ _) | (with_reducible refine Below.frame ?_ _) | (with_reducible exact Nat.le_refl _) | omega | (simp only [World.size_alloc, World.size_setCell, World.size_drew, setRow_size]; omega) | (simp; omega) | (simp; done)))) (hb6.mono (by (try simp only [World.size_alloc, World.size_setCell, World.size_drew, setRow_size]); omega)); clear hb6; (try clear hB hs); have hB := hB'; clear hB'; have hs := hB.size)
      | (go_at_call 97; (with_reducible refine Calls.mono (BytesP HE.out HBS.out hL5 HO.out) ?_); rintro e w3 ⟨b3, c3, rfl, hown3, hb3⟩; have HO3 := Lib.hid (owns_liesV hown3); have hB' : Below w.heap.size w w3 := Below.trans (by (repeat' (first | (with_reducible exact Below.refl _ _) | (with_reducible assumption) | (show Below 0 _ _; with_reducible refine Below.mono (by assumption) (Nat.zero_le _)) | (with_reducible refine below_setRow ?_ ?_ _) | (with_reducible refine Below.alloc ?_ ?_ _) | (with_reducible refine Below.drew ?_) | (with_reducible refine Below.setCell ?_ ?_ _) | (with_reducible refine Below.frame ?_ _) | (with_reducible exact Nat.le_refl _) | omega | (simp only [World.size_alloc, World.size_setCell, World.size_drew, setRow_size]; omega) | (simp; omega) | (simp; done)))) (hb3.mono (by (try simp only [World.size_alloc, World.size_setCell, World.size_drew, setRow_size]); omega)); clear hb3; (try clear hB hs); have hB := hB'; clear hB'; have hs := hB.size; clear hown3)
      | (go_at_call 22; (with_reducible refine Calls.mono (SameBytes_eq l _ _ _ _ _ HN2.out (HL.out.below hB) HO3.out) ?_); rintro e w4 ⟨rfl, hb4⟩; have hB' : Below w.heap.size w w4 := Below.trans (by (repeat' (first | (with_reducible exact Below.refl _ _) | (with_reducible assumption) | (show Below 0 _ _; with_reducible refine Below.mono (by assumption) (Nat.zero_le _)) | (with_reducible refine below_setRow ?_ ?_ _) | (with_reducible refine Below.alloc ?_ ?_ _) | (with_reducible refine Below.drew ?_) | (with_reducible refine Below.setCell ?_ ?_ _) | (with_reducible refine Below.frame ?_ _) | (with_reducible exact Nat.le_refl _) | omega | (simp only [World.size_alloc, World.size_setCell, World.size_drew, setRow_size]; omega) | (simp; omega) | (simp; done)))) (hb4.mono (by (try simp only [World.size_alloc, World.size_setCell, World.size_drew, setRow_size]); omega)); clear hb4; (try clear hB hs); have hB := hB'; clear hB'; have hs := hB.size)
      | (go_at_call 15; (with_reducible refine Calls.mono (alive7 _) ?_); rintro e w5 ⟨rfl, hb5⟩; have hB' : Below w.heap.size w w5 := Below.trans (by (repeat' (first | (with_reducible exact Below.refl _ _) | (with_reducible assumption) | (show Below 0 _ _; with_reducible refine Below.mono (by assumption) (Nat.zero_le _)) | (with_reducible refine below_setRow ?_ ?_ _) | (with_reducible refine Below.alloc ?_ ?_ _) | (with_reducible refine Below.drew ?_) | (with_reducible refine Below.setCell ?_ ?_ _) | (with_reducible refine Below.frame ?_ _) | (with_reducible exact Nat.le_refl _) | omega | (simp only [World.size_alloc, World.size_setCell, World.size_drew, setRow_size]; omega) | (simp; omega) | (simp; done)))) (hb5.mono (by (try simp only [World.size_alloc, World.size_setCell, World.size_drew, setRow_size]); omega)); clear hb5; (try clear hB hs); have hB := hB'; clear hB'; have hs := hB.size))
    go_ret
    exact ⟨rfl, hB⟩)
set_option maxRecDepth 100000 in
set_option maxHeartbeats 8000000 in
theorem Taken_U1 {l : List Int} {n m : Int} {base : Option Addr} {cap : Nat} {w : World} (hb : byteOk l) (hl : LiesV (bytesV l) base w) (hcap : l.length ≤ cap) (h5 : l.length ≤ 5000) (hm : m = n) (hc : decodeC l n = 0) (hk : l.getD 2 0 = 3) :
    Calls Try.prog 8 #[.slice base l.length cap, .int .i64 n, .int .i64 m] w fun e w' => e = .returned (.bool true) ∧ Below w.heap.size w w' := by
  subst hm
  have em : (m == m) = true := beq_self_eq_true _
  obtain ⟨h1, -, hdec⟩ := decode_ok hc
  obtain ⟨from_, hf⟩ : ∃ x, l.getD 4 0 = x := ⟨_, rfl⟩
  obtain ⟨L, hL⟩ : ∃ L, newsD l m = L := ⟨_, rfl⟩
  have hE := wtaken_ok hb h1.1 h1.2 hdec
  have hT := wtaken hb h1.1 h1.2 hdec
  rw [hk, hf, hL, show roundD l = 0 by unfold roundD; rw [if_pos hk], show heardD l m = 0#128 by unfold heardD; rw [if_neg (by omega)]] at hE hT
  have hBS := (bytesC_good hE).trans hT
  have hL5 : L.length ≤ 5000 := by
    have hr7 := (note_okE hE).2.2.2.2.2.2
    have := (rise_each L (-1) hr7).2
    omega
  have HC := Lib.hid hc
  have HK := Lib.hid hk
  have HF := Lib.hid hf
  have HW := Lib.hid hL
  have HE := Lib.hid hE
  have HBS := Lib.hid hBS
  clear h1 hdec hE hT hBS
  clear hk hc hf hL
  have HB := Lib.hid hb
  have HL := Lib.hid hl
  have HN := Lib.hid (show l.length ≤ 140737488351232 by omega)
  have HN2 := Lib.hid (show l.length ≤ 140737488355328 by omega)
  have hd : decide ((5000 : Int) < (l.length : Int)) = false := decide_eq_false (by omega)
  have hd2 : decide (5000 < l.length) = false := decide_eq_false (by omega)
  clear hb hl
  go_enter Try.func8, Try.ntmps8
  go_wp2_with (first
    | (go_at_call 24; (with_reducible refine Calls.mono (Decode_U HB.out HL.out hcap HN.out HC.out HK.out HF.out HW.out) ?_); rintro e w1 ⟨nb, nc, rfl, hl1, hb1⟩; have hB := hb1; have hs := hB.size; have HO := Lib.hid hl1; clear hb1 hl1)
    | (go_at_call 101; (with_reducible refine Calls.mono (BytesU HE.out HBS.out hL5 HO.out) ?_); rintro e w3 ⟨b3, c3, rfl, hown3, hb3⟩; have HO3 := Lib.hid (owns_liesV hown3); have hB' : Below w.heap.size w w3 := Below.trans (by (repeat' (first | (with_reducible exact Below.refl _ _) | (with_reducible assumption) | (show Below 0 _ _; with_reducible refine Below.mono (by assumption) (Nat.zero_le _)) | (with_reducible refine below_setRow ?_ ?_ _) | (with_reducible refine Below.alloc ?_ ?_ _) | (with_reducible refine Below.drew ?_) | (with_reducible refine Below.setCell ?_ ?_ _) | (with_reducible refine Below.frame ?_ _) | (with_reducible exact Nat.le_refl _) | omega | (simp only [World.size_alloc, World.size_setCell, World.size_drew, setRow_size]; omega) | (simp; omega) | (simp; done)))) (hb3.mono (by (try simp only [World.size_alloc, World.size_setCell, World.size_drew, setRow_size]); omega)); clear hb3; (try clear hB hs); have hB := hB'; clear hB'; have hs := hB.size; clear hown3)
    | (go_at_call 22; (with_reducible refine Calls.mono (SameBytes_eq l _ _ _ _ _ HN2.out (HL.out.below hB) HO3.out) ?_); rintro e w4 ⟨rfl, hb4⟩; have hB' : Below w.heap.size w w4 := Below.trans (by (repeat' (first | (with_reducible exact Below.refl _ _) | (with_reducible assumption) | (show Below 0 _ _; with_reducible refine Below.mono (by assumption) (Nat.zero_le _)) | (with_reducible refine below_setRow ?_ ?_ _) | (with_reducible refine Below.alloc ?_ ?_ _) | (with_reducible refine Below.drew ?_) | (with_reducible refine Below.setCell ?_ ?_ _) | (with_reducible refine Below.frame ?_ _) | (with_reducible exact Nat.le_refl _) | omega | (simp only [World.size_alloc, World.size_setCell, World.size_drew, setRow_size]; omega) | (simp; omega) | (simp; done)))) (hb4.mono (by (try simp only [World.size_alloc, World.size_setCell, World.size_drew, setRow_size]); omega)); clear hb4; (try clear hB hs); have hB := hB'; clear hB'; have hs := hB.size)
    | (go_at_call 15; (with_reducible refine Calls.mono (alive7 _) ?_); rintro e w5 ⟨rfl, hb5⟩; have hB' : Below w.heap.size w w5 := Below.trans (by (repeat' (first | (with_reducible exact Below.refl _ _) | (with_reducible assumption) | (show Below 0 _ _; with_reducible refine Below.mono (by assumption) (Nat.zero_le _)) | (with_reducible refine below_setRow ?_ ?_ _) | (with_reducible refine Below.alloc ?_ ?_ _) | (with_reducible refine Below.drew ?_) | (with_reducible refine Below.setCell ?_ ?_ _) | (with_reducible refine Below.frame ?_ _) | (with_reducible exact Nat.le_refl _) | omega | (simp only [World.size_alloc, World.size_setCell, World.size_drew, setRow_size]; omega) | (simp; omega) | (simp; done)))) (hb5.mono (by (try simp only [World.size_alloc, World.size_setCell, World.size_drew, setRow_size]); omega)); clear hb5; (try clear hB hs); have hB := hB'; clear hB'; have hs := hB.size))
  go_ret
  exact ⟨rfl, hB⟩
set_option maxRecDepth 100000 in
set_option maxHeartbeats 8000000 in
theorem Taken_U2 {l : List Int} {n m : Int} {base : Option Addr} {cap : Nat} {w : World} (hb : byteOk l) (hl : LiesV (bytesV l) base w) (hcap : l.length ≤ cap) (h5 : l.length ≤ 5000) {g : Int} (hm : m ≠ n) (hg : decodeC l m = g) (hg2 : g = 102 ∨ g = 1) (hc : decodeC l n = 0) (hk : l.getD 2 0 = 3) :
    Calls Try.prog 8 #[.slice base l.length cap, .int .i64 n, .int .i64 m] w fun e w' => e = .returned (.bool true) ∧ Below w.heap.size w w' := by
  have em : (m == n) = false := beq_eq_false_iff_ne.2 hm
  have HG := Lib.hid hg
  clear hg
  have hg0 : g ≠ 0 := by omega
  obtain ⟨h1, -, hdec⟩ := decode_ok hc
  obtain ⟨from_, hf⟩ : ∃ x, l.getD 4 0 = x := ⟨_, rfl⟩
  obtain ⟨L, hL⟩ : ∃ L, newsD l n = L := ⟨_, rfl⟩
  have hE := wtaken_ok hb h1.1 h1.2 hdec
  have hT := wtaken hb h1.1 h1.2 hdec
  rw [hk, hf, hL, show roundD l = 0 by unfold roundD; rw [if_pos hk], show heardD l n = 0#128 by unfold heardD; rw [if_neg (by omega)]] at hE hT
  have hBS := (bytesC_good hE).trans hT
  have hL5 : L.length ≤ 5000 := by
    have hr7 := (note_okE hE).2.2.2.2.2.2
    have := (rise_each L (-1) hr7).2
    omega
  have HC := Lib.hid hc
  have HK := Lib.hid hk
  have HF := Lib.hid hf
  have HW := Lib.hid hL
  have HE := Lib.hid hE
  have HBS := Lib.hid hBS
  clear h1 hdec hE hT hBS
  clear hk hc hf hL
  have HB := Lib.hid hb
  have HL := Lib.hid hl
  have HN := Lib.hid (show l.length ≤ 140737488351232 by omega)
  have HN2 := Lib.hid (show l.length ≤ 140737488355328 by omega)
  have hd : decide ((5000 : Int) < (l.length : Int)) = false := decide_eq_false (by omega)
  have hd2 : decide (5000 < l.length) = false := decide_eq_false (by omega)
  clear hb hl
  rcases hg2 with rfl | rfl
  all_goals (
    go_enter Try.func8, Try.ntmps8
    go_wp2_with (first
      | (go_at_call 24; (with_reducible refine Calls.mono (Decode_U HB.out HL.out hcap HN.out HC.out HK.out HF.out HW.out) ?_); rintro e w1 ⟨nb, nc, rfl, hl1, hb1⟩; have hB := hb1; have hs := hB.size; have HO := Lib.hid hl1; clear hb1 hl1)
      | (go_at_call 24; (with_reducible refine Calls.mono (Decode_no HB.out (HL.out.below hB) hcap HN.out HG.out hg0) ?_); rintro e w6 ⟨rfl, hb6⟩; have hB' : Below w.heap.size w w6 := Below.trans (by (repeat' (first | (with_reducible exact Below.refl _ _) | (with_reducible assumption) | (show Below 0 _ _; with_reducible refine Below.mono (by assumption) (Nat.zero_le _)) | (with_reducible refine below_setRow ?_ ?_ _) | (with_reducible refine Below.alloc ?_ ?_ _) | (with_reducible refine Below.drew ?_) | (with_reducible refine Below.setCell ?_ ?_ _) | (with_reducible refine Below.frame ?_ _) | (with_reducible exact Nat.le_refl _) | omega | (simp only [World.size_alloc, World.size_setCell, World.size_drew, setRow_size]; omega) | (simp; omega) | (simp; done)))) (hb6.mono (by (try simp only [World.size_alloc, World.size_setCell, World.size_drew, setRow_size]); omega)); clear hb6; (try clear hB hs); have hB := hB'; clear hB'; have hs := hB.size)
      | (go_at_call 101; (with_reducible refine Calls.mono (BytesU HE.out HBS.out hL5 HO.out) ?_); rintro e w3 ⟨b3, c3, rfl, hown3, hb3⟩; have HO3 := Lib.hid (owns_liesV hown3); have hB' : Below w.heap.size w w3 := Below.trans (by (repeat' (first | (with_reducible exact Below.refl _ _) | (with_reducible assumption) | (show Below 0 _ _; with_reducible refine Below.mono (by assumption) (Nat.zero_le _)) | (with_reducible refine below_setRow ?_ ?_ _) | (with_reducible refine Below.alloc ?_ ?_ _) | (with_reducible refine Below.drew ?_) | (with_reducible refine Below.setCell ?_ ?_ _) | (with_reducible refine Below.frame ?_ _) | (with_reducible exact Nat.le_refl _) | omega | (simp only [World.size_alloc, World.size_setCell, World.size_drew, setRow_size]; omega) | (simp; omega) | (simp; done)))) (hb3.mono (by (try simp only [World.size_alloc, World.size_setCell, World.size_drew, setRow_size]); omega)); clear hb3; (try clear hB hs); have hB := hB'; clear hB'; have hs := hB.size; clear hown3)
      | (go_at_call 22; (with_reducible refine Calls.mono (SameBytes_eq l _ _ _ _ _ HN2.out (HL.out.below hB) HO3.out) ?_); rintro e w4 ⟨rfl, hb4⟩; have hB' : Below w.heap.size w w4 := Below.trans (by (repeat' (first | (with_reducible exact Below.refl _ _) | (with_reducible assumption) | (show Below 0 _ _; with_reducible refine Below.mono (by assumption) (Nat.zero_le _)) | (with_reducible refine below_setRow ?_ ?_ _) | (with_reducible refine Below.alloc ?_ ?_ _) | (with_reducible refine Below.drew ?_) | (with_reducible refine Below.setCell ?_ ?_ _) | (with_reducible refine Below.frame ?_ _) | (with_reducible exact Nat.le_refl _) | omega | (simp only [World.size_alloc, World.size_setCell, World.size_drew, setRow_size]; omega) | (simp; omega) | (simp; done)))) (hb4.mono (by (try simp only [World.size_alloc, World.size_setCell, World.size_drew, setRow_size]); omega)); clear hb4; (try clear hB hs); have hB := hB'; clear hB'; have hs := hB.size)
      | (go_at_call 15; (with_reducible refine Calls.mono (alive7 _) ?_); rintro e w5 ⟨rfl, hb5⟩; have hB' : Below w.heap.size w w5 := Below.trans (by (repeat' (first | (with_reducible exact Below.refl _ _) | (with_reducible assumption) | (show Below 0 _ _; with_reducible refine Below.mono (by assumption) (Nat.zero_le _)) | (with_reducible refine below_setRow ?_ ?_ _) | (with_reducible refine Below.alloc ?_ ?_ _) | (with_reducible refine Below.drew ?_) | (with_reducible refine Below.setCell ?_ ?_ _) | (with_reducible refine Below.frame ?_ _) | (with_reducible exact Nat.le_refl _) | omega | (simp only [World.size_alloc, World.size_setCell, World.size_drew, setRow_size]; omega) | (simp; omega) | (simp; done)))) (hb5.mono (by (try simp only [World.size_alloc, World.size_setCell, World.size_drew, setRow_size]); omega)); clear hb5; (try clear hB hs); have hB := hB'; clear hB'; have hs := hB.size))
    go_ret
    exact ⟨rfl, hB⟩)
theorem WireTaken_calls (l : List Int) (base : Option Addr) (cap : Nat) (n m : Int) (w : World) (hb : byteOk l) (hl : LiesV (bytesV l) base w) (hcap : l.length ≤ cap) :
    Calls Try.prog 8 #[.slice base l.length cap, .int .i64 n, .int .i64 m] w fun e w' => e = .returned (.bool true) ∧ Below w.heap.size w w' := by
  by_cases h5 : 5000 < l.length
  · exact Taken_long h5
  · by_cases hc : decodeC l n = 0
    · by_cases hm : m = n
      · rcases (decode_ok hc).2.2.kind with hk | hk | hk
        · exact Taken_Q1 hb hl hcap (by omega) hm hc hk
        · exact Taken_P1 hb hl hcap (by omega) hm hc hk
        · exact Taken_U1 hb hl hcap (by omega) hm hc hk
      · rcases (decode_ok hc).2.2.kind with hk | hk | hk
        · exact Taken_Q2 hb hl hcap (by omega) hm rfl (dec_other hc hm) hc hk
        · exact Taken_P2 hb hl hcap (by omega) hm rfl (dec_other hc hm) hc hk
        · exact Taken_U2 hb hl hcap (by omega) hm rfl (dec_other hc hm) hc hk
    · exact Taken_no hb hl hcap (by omega) rfl hc
end Go.Proofs.Ytklfkfnckdeifaa
