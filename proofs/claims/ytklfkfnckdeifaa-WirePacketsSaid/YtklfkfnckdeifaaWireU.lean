/-
  Decode by the kinds; the assertions.
-/
import Derived.Test.YtklfkfnckdeifaaWireR
import Derived.Test.YtklfkfnckdeifaaWireSa
import Derived.Test.YtklfkfnckdeifaaWireT
import Derived.Test.YtklfkfnckdeifaaWireD
namespace Go.Proofs.Ytklfkfnckdeifaa
set_option linter.unusedSimpArgs false
set_option linter.unusedVariables false
open Go.RowKit
attribute [local irreducible] Ear.Pl.wpQ Ear.Pa.wpQ Ear.Fe.wpQ Ear.Fa.wpQ Ear.wd withinW numK heardK sumV newsK ntK manyK atK bytesN riseFrom
theorem decode_ok {l : List Int} {n : Int} (h : decodeC l n = 0) : (1 ≤ n ∧ n ≤ 100) ∧ l.length ≤ 1024 ∧ DecOk l n := by
  unfold decodeC at h
  split at h
  · omega
  · split at h
    · omega
    · exact ⟨by omega, by omega, dec_ok h⟩
theorem ok_decode {l : List Int} {n : Int} (h1 : 1 ≤ n ∧ n ≤ 100) (h2 : l.length ≤ 1024) (h : DecOk l n) : decodeC l n = 0 := by
  unfold decodeC
  rw [if_neg (by omega), if_neg (by omega)]
  exact ok_dec h
theorem Decode_no {l : List Int} {n c : Int} {base : Option Addr} {cap : Nat} {w : World} (hb : byteOk l) (hl : LiesV (bytesV l) base w) (hcap : l.length ≤ cap) (hN : l.length ≤ 140737488351232) (hc : decodeC l n = c) (h0 : c ≠ 0) :
    Calls Try.prog 24 #[.slice base l.length cap, .int .i64 n] w fun e w' => e = .returned (.tuple #[.nilIface, .int .i64 c]) ∧ Below w.heap.size w w' :=
  (Decode_any hb hl hcap hc hN).mono fun e w' he => he.2 h0
theorem Decode_Q {l : List Int} {n from_ round : Int} {L : List Nt} {base : Option Addr} {cap : Nat} {w : World} (hb : byteOk l) (hl : LiesV (bytesV l) base w) (hcap : l.length ≤ cap) (hN : l.length ≤ 140737488351232) (hc : decodeC l n = 0) (hk : l.getD 2 0 = 1) (hf : l.getD 4 0 = from_) (hr : numK l 5 5 = round) (hL : newsD l n = L) :
    Calls Try.prog 24 #[.slice base l.length cap, .int .i64 n] w fun e w' => ∃ nb nc, e = .returned (.tuple #[.iface 55 (.agg #[.int .i64 from_, .int .i64 round, .slice nb L.length nc]), .int .i64 0]) ∧ LiesV (ntsV L) nb w' ∧ Below w.heap.size w w' := by
  refine (Decode_any hb hl hcap hc hN).mono fun e w' he => ?_
  obtain ⟨nb, nc, h1, h2, h3⟩ := he.1 rfl
  subst hL
  refine ⟨nb, nc, ?_, owns_liesV h2, h3⟩
  rw [h1, noteV_1 hk hf hr, newsD_len, atK_1 hk]
theorem Decode_P {l : List Int} {n from_ round : Int} {L : List Nt} {heard : BitVec 128} {base : Option Addr} {cap : Nat} {w : World} (hb : byteOk l) (hl : LiesV (bytesV l) base w) (hcap : l.length ≤ cap) (hN : l.length ≤ 140737488351232) (hc : decodeC l n = 0) (hk : l.getD 2 0 = 2) (hf : l.getD 4 0 = from_) (hr : numK l 5 5 = round) (hh : heardK l 10 (bytesN n) = heard) (hL : newsD l n = L) :
    Calls Try.prog 24 #[.slice base l.length cap, .int .i64 n] w fun e w' => ∃ nb nc, e = .returned (.tuple #[.iface 58 (.agg #[.int .i64 from_, .int .i64 round, .int .u32 (Ear.wd heard 0), .int .u32 (Ear.wd heard 1), .int .u32 (Ear.wd heard 2), .int .u32 (Ear.wd heard 3), .slice nb L.length nc]), .int .i64 0]) ∧ LiesV (ntsV L) nb w' ∧ Below w.heap.size w w' := by
  refine (Decode_any hb hl hcap hc hN).mono fun e w' he => ?_
  obtain ⟨nb, nc, h1, h2, h3⟩ := he.1 rfl
  subst hL
  refine ⟨nb, nc, ?_, owns_liesV h2, h3⟩
  rw [h1, noteV_2 hk hf hr, newsD_len, atK_2 hk, hh]
theorem Decode_U {l : List Int} {n from_ : Int} {L : List Nt} {base : Option Addr} {cap : Nat} {w : World} (hb : byteOk l) (hl : LiesV (bytesV l) base w) (hcap : l.length ≤ cap) (hN : l.length ≤ 140737488351232) (hc : decodeC l n = 0) (hk : l.getD 2 0 = 3) (hf : l.getD 4 0 = from_) (hL : newsD l n = L) :
    Calls Try.prog 24 #[.slice base l.length cap, .int .i64 n] w fun e w' => ∃ nb nc, e = .returned (.tuple #[.iface 61 (.agg #[.int .i64 from_, .slice nb L.length nc]), .int .i64 0]) ∧ LiesV (ntsV L) nb w' ∧ Below w.heap.size w w' := by
  refine (Decode_any hb hl hcap hc hN).mono fun e w' he => ?_
  obtain ⟨nb, nc, h1, h2, h3⟩ := he.1 rfl
  subst hL
  refine ⟨nb, nc, ?_, owns_liesV h2, h3⟩
  rw [h1, noteV_3 hk hf, newsD_len, atK_3 hk]
set_option maxRecDepth 100000 in
set_option maxHeartbeats 1000000 in
theorem Asserts_long {N : Nat} {base : Option Addr} {cap : Nat} {n : Int} {w : World} (h : 5000 < N) :
    Calls Try.prog 6 #[.slice base N cap, .int .i64 n] w fun e w' => e = .returned (.bool true) ∧ Below w.heap.size w w' := by
  have hd : decide ((5000 : Int) < (N : Int)) = true := decide_eq_true (by omega)
  have hd2 : decide (5000 < N) = true := decide_eq_true (by omega)
  go_enter Try.func6, Try.ntmps6
  go_wp2_with (go_at_call 15; (with_reducible refine Calls.mono (alive7 _) ?_); rintro e w2 ⟨rfl, hb2⟩; have hB' : Below w.heap.size w w2 := Below.trans (by (repeat' (first | (with_reducible exact Below.refl _ _) | (with_reducible assumption) | (show Below 0 _ _; with_reducible refine Below.mono (by assumption) (Nat.zero_le _)) | (with_reducible refine below_setRow ?_ ?_ _) | (with_reducible refine Below.alloc ?_ ?_ _) | (with_reducible refine Below.drew ?_) | (with_reducible refine Below.setCell ?_ ?_ _) | (with_reducible refine Below.frame ?_ _) | (with_reducible exact Nat.le_refl _) | omega | (simp only [World.size_alloc, World.size_setCell, World.size_drew, setRow_size]; omega) | (simp; omega) | (simp; done)))) (hb2.mono (by (try simp only [World.size_alloc, World.size_setCell, World.size_drew, setRow_size]); omega)); clear hb2; (try clear hB hs); have hB := hB'; clear hB'; have hs := hB.size)
  go_ret
  exact ⟨rfl, hB⟩
attribute [local go_sem] ta_Query_Query ta_Reply_Query ta_Rumor_Query ta_nil_Query ta_Query_Reply ta_Reply_Reply ta_Rumor_Reply ta_nil_Reply ta_Query_Rumor ta_Reply_Rumor ta_Rumor_Rumor ta_nil_Rumor eqn_Query eqn_Reply eqn_Rumor eqn_nil
set_option maxRecDepth 100000 in
set_option maxHeartbeats 4000000 in
theorem Asserts_no {l : List Int} {n : Int} {base : Option Addr} {cap : Nat} {w : World} (hb : byteOk l) (hl : LiesV (bytesV l) base w) (hcap : l.length ≤ cap) (h5 : l.length ≤ 5000) {c : Int} (hc : decodeC l n = c) (h0 : c ≠ 0) :
    Calls Try.prog 6 #[.slice base l.length cap, .int .i64 n] w fun e w' => e = .returned (.bool true) ∧ Below w.heap.size w w' := by
  have HC := Lib.hid hc
  have hc0 : (c == 0) = false := beq_eq_false_iff_ne.2 h0
  have hc1 : (c != 0) = true := bne_iff_ne.2 h0
  have HB := Lib.hid hb
  have HL := Lib.hid hl
  have HN := Lib.hid (show l.length ≤ 140737488351232 by omega)
  have hd : decide ((5000 : Int) < (l.length : Int)) = false := decide_eq_false (by omega)
  have hd2 : decide (5000 < l.length) = false := decide_eq_false (by omega)
  clear hb hl
  go_enter Try.func6, Try.ntmps6
  go_wp2_with (first
    | (go_at_call 24; (with_reducible refine Calls.mono (Decode_no HB.out HL.out hcap HN.out HC.out h0) ?_); rintro e w1 ⟨rfl, hb1⟩; have hB := hb1; have hs := hB.size; clear hb1)
    | (go_at_call 15; (with_reducible refine Calls.mono (alive7 _) ?_); rintro e w2 ⟨rfl, hb2⟩; have hB' : Below w.heap.size w w2 := Below.trans (by (repeat' (first | (with_reducible exact Below.refl _ _) | (with_reducible assumption) | (show Below 0 _ _; with_reducible refine Below.mono (by assumption) (Nat.zero_le _)) | (with_reducible refine below_setRow ?_ ?_ _) | (with_reducible refine Below.alloc ?_ ?_ _) | (with_reducible refine Below.drew ?_) | (with_reducible refine Below.setCell ?_ ?_ _) | (with_reducible refine Below.frame ?_ _) | (with_reducible exact Nat.le_refl _) | omega | (simp only [World.size_alloc, World.size_setCell, World.size_drew, setRow_size]; omega) | (simp; omega) | (simp; done)))) (hb2.mono (by (try simp only [World.size_alloc, World.size_setCell, World.size_drew, setRow_size]); omega)); clear hb2; (try clear hB hs); have hB := hB'; clear hB'; have hs := hB.size))
  go_ret
  exact ⟨rfl, hB⟩
set_option maxRecDepth 100000 in
set_option maxHeartbeats 8000000 in
theorem Asserts_Q {l : List Int} {n : Int} {base : Option Addr} {cap : Nat} {w : World} (hb : byteOk l) (hl : LiesV (bytesV l) base w) (hcap : l.length ≤ cap) (h5 : l.length ≤ 5000) (hc : decodeC l n = 0) (hk : l.getD 2 0 = 1) :
    Calls Try.prog 6 #[.slice base l.length cap, .int .i64 n] w fun e w' => e = .returned (.bool true) ∧ Below w.heap.size w w' := by
  have hff := (decode_ok hc).2.2.frm
  have hf0 := (getD_in hb 4).1
  obtain ⟨from_, hf⟩ : ∃ x, l.getD 4 0 = x := ⟨_, rfl⟩
  obtain ⟨L, hL⟩ : ∃ L, newsD l n = L := ⟨_, rfl⟩
  rw [hf] at hff hf0
  have d1 : decide (0 ≤ from_) = true := decide_eq_true hf0
  have d2 : decide (from_ < n) = true := decide_eq_true hff
  have HC := Lib.hid hc
  have HK := Lib.hid hk
  have HF := Lib.hid hf
  have HW := Lib.hid hL
  obtain ⟨round, hr⟩ : ∃ x, numK l 5 5 = x := ⟨_, rfl⟩
  have HR := Lib.hid hr
  clear hk hc hf hff hL hr
  have HB := Lib.hid hb
  have HL := Lib.hid hl
  have HN := Lib.hid (show l.length ≤ 140737488351232 by omega)
  have hd : decide ((5000 : Int) < (l.length : Int)) = false := decide_eq_false (by omega)
  have hd2 : decide (5000 < l.length) = false := decide_eq_false (by omega)
  clear hb hl
  go_enter Try.func6, Try.ntmps6
  go_wp2_with (first
    | (go_at_call 24; (with_reducible refine Calls.mono (Decode_Q HB.out HL.out hcap HN.out HC.out HK.out HF.out HR.out HW.out) ?_); rintro e w1 ⟨nb, nc, rfl, hown, hb1⟩; have hB := hb1; have hs := hB.size; clear hb1 hown)
    | (go_at_call 15; (with_reducible refine Calls.mono (alive7 _) ?_); rintro e w2 ⟨rfl, hb2⟩; have hB' : Below w.heap.size w w2 := Below.trans (by (repeat' (first | (with_reducible exact Below.refl _ _) | (with_reducible assumption) | (show Below 0 _ _; with_reducible refine Below.mono (by assumption) (Nat.zero_le _)) | (with_reducible refine below_setRow ?_ ?_ _) | (with_reducible refine Below.alloc ?_ ?_ _) | (with_reducible refine Below.drew ?_) | (with_reducible refine Below.setCell ?_ ?_ _) | (with_reducible refine Below.frame ?_ _) | (with_reducible exact Nat.le_refl _) | omega | (simp only [World.size_alloc, World.size_setCell, World.size_drew, setRow_size]; omega) | (simp; omega) | (simp; done)))) (hb2.mono (by (try simp only [World.size_alloc, World.size_setCell, World.size_drew, setRow_size]); omega)); clear hb2; (try clear hB hs); have hB := hB'; clear hB'; have hs := hB.size)
    | (go_at_call 46; (with_reducible refine Calls.mono (KindOfQ _ _ _ _ _ _) ?_); rintro e w3 ⟨rfl, hb3⟩; have hB' : Below w.heap.size w w3 := Below.trans (by (repeat' (first | (with_reducible exact Below.refl _ _) | (with_reducible assumption) | (show Below 0 _ _; with_reducible refine Below.mono (by assumption) (Nat.zero_le _)) | (with_reducible refine below_setRow ?_ ?_ _) | (with_reducible refine Below.alloc ?_ ?_ _) | (with_reducible refine Below.drew ?_) | (with_reducible refine Below.setCell ?_ ?_ _) | (with_reducible refine Below.frame ?_ _) | (with_reducible exact Nat.le_refl _) | omega | (simp only [World.size_alloc, World.size_setCell, World.size_drew, setRow_size]; omega) | (simp; omega) | (simp; done)))) (hb3.mono (by (try simp only [World.size_alloc, World.size_setCell, World.size_drew, setRow_size]); omega)); clear hb3; (try clear hB hs); have hB := hB'; clear hB'; have hs := hB.size)
    | (go_at_call 94; (with_reducible refine Calls.mono (SenderQ _ _ _ _ _ _) ?_); rintro e w4 ⟨rfl, hb4⟩; have hB' : Below w.heap.size w w4 := Below.trans (by (repeat' (first | (with_reducible exact Below.refl _ _) | (with_reducible assumption) | (show Below 0 _ _; with_reducible refine Below.mono (by assumption) (Nat.zero_le _)) | (with_reducible refine below_setRow ?_ ?_ _) | (with_reducible refine Below.alloc ?_ ?_ _) | (with_reducible refine Below.drew ?_) | (with_reducible refine Below.setCell ?_ ?_ _) | (with_reducible refine Below.frame ?_ _) | (with_reducible exact Nat.le_refl _) | omega | (simp only [World.size_alloc, World.size_setCell, World.size_drew, setRow_size]; omega) | (simp; omega) | (simp; done)))) (hb4.mono (by (try simp only [World.size_alloc, World.size_setCell, World.size_drew, setRow_size]); omega)); clear hb4; (try clear hB hs); have hB := hB'; clear hB'; have hs := hB.size))
  go_ret
  exact ⟨rfl, hB⟩
set_option maxRecDepth 100000 in
set_option maxHeartbeats 8000000 in
theorem Asserts_P {l : List Int} {n : Int} {base : Option Addr} {cap : Nat} {w : World} (hb : byteOk l) (hl : LiesV (bytesV l) base w) (hcap : l.length ≤ cap) (h5 : l.length ≤ 5000) (hc : decodeC l n = 0) (hk : l.getD 2 0 = 2) :
    Calls Try.prog 6 #[.slice base l.length cap, .int .i64 n] w fun e w' => e = .returned (.bool true) ∧ Below w.heap.size w w' := by
  have hff := (decode_ok hc).2.2.frm
  have hf0 := (getD_in hb 4).1
  obtain ⟨from_, hf⟩ : ∃ x, l.getD 4 0 = x := ⟨_, rfl⟩
  obtain ⟨L, hL⟩ : ∃ L, newsD l n = L := ⟨_, rfl⟩
  rw [hf] at hff hf0
  have d1 : decide (0 ≤ from_) = true := decide_eq_true hf0
  have d2 : decide (from_ < n) = true := decide_eq_true hff
  have HC := Lib.hid hc
  have HK := Lib.hid hk
  have HF := Lib.hid hf
  have HW := Lib.hid hL
  obtain ⟨round, hr⟩ : ∃ x, numK l 5 5 = x := ⟨_, rfl⟩
  have HR := Lib.hid hr
  obtain ⟨heard, hh⟩ : ∃ x, heardK l 10 (bytesN n) = x := ⟨_, rfl⟩
  have HH := Lib.hid hh
  clear hk hc hf hff hL hr hh
  have HB := Lib.hid hb
  have HL := Lib.hid hl
  have HN := Lib.hid (show l.length ≤ 140737488351232 by omega)
  have hd : decide ((5000 : Int) < (l.length : Int)) = false := decide_eq_false (by omega)
  have hd2 : decide (5000 < l.length) = false := decide_eq_false (by omega)
  clear hb hl
  go_enter Try.func6, Try.ntmps6
  go_wp2_with (first
    | (go_at_call 24; (with_reducible refine Calls.mono (Decode_P HB.out HL.out hcap HN.out HC.out HK.out HF.out HR.out HH.out HW.out) ?_); rintro e w1 ⟨nb, nc, rfl, hown, hb1⟩; have hB := hb1; have hs := hB.size; clear hb1 hown)
    | (go_at_call 15; (with_reducible refine Calls.mono (alive7 _) ?_); rintro e w2 ⟨rfl, hb2⟩; have hB' : Below w.heap.size w w2 := Below.trans (by (repeat' (first | (with_reducible exact Below.refl _ _) | (with_reducible assumption) | (show Below 0 _ _; with_reducible refine Below.mono (by assumption) (Nat.zero_le _)) | (with_reducible refine below_setRow ?_ ?_ _) | (with_reducible refine Below.alloc ?_ ?_ _) | (with_reducible refine Below.drew ?_) | (with_reducible refine Below.setCell ?_ ?_ _) | (with_reducible refine Below.frame ?_ _) | (with_reducible exact Nat.le_refl _) | omega | (simp only [World.size_alloc, World.size_setCell, World.size_drew, setRow_size]; omega) | (simp; omega) | (simp; done)))) (hb2.mono (by (try simp only [World.size_alloc, World.size_setCell, World.size_drew, setRow_size]); omega)); clear hb2; (try clear hB hs); have hB := hB'; clear hB'; have hs := hB.size)
    | (go_at_call 47; (with_reducible refine Calls.mono (KindOfP _ _ _ _ _ _ _) ?_); rintro e w3 ⟨rfl, hb3⟩; have hB' : Below w.heap.size w w3 := Below.trans (by (repeat' (first | (with_reducible exact Below.refl _ _) | (with_reducible assumption) | (show Below 0 _ _; with_reducible refine Below.mono (by assumption) (Nat.zero_le _)) | (with_reducible refine below_setRow ?_ ?_ _) | (with_reducible refine Below.alloc ?_ ?_ _) | (with_reducible refine Below.drew ?_) | (with_reducible refine Below.setCell ?_ ?_ _) | (with_reducible refine Below.frame ?_ _) | (with_reducible exact Nat.le_refl _) | omega | (simp only [World.size_alloc, World.size_setCell, World.size_drew, setRow_size]; omega) | (simp; omega) | (simp; done)))) (hb3.mono (by (try simp only [World.size_alloc, World.size_setCell, World.size_drew, setRow_size]); omega)); clear hb3; (try clear hB hs); have hB := hB'; clear hB'; have hs := hB.size)
    | (go_at_call 99; (with_reducible refine Calls.mono (SenderP _ _ _ _ _ _ _) ?_); rintro e w4 ⟨rfl, hb4⟩; have hB' : Below w.heap.size w w4 := Below.trans (by (repeat' (first | (with_reducible exact Below.refl _ _) | (with_reducible assumption) | (show Below 0 _ _; with_reducible refine Below.mono (by assumption) (Nat.zero_le _)) | (with_reducible refine below_setRow ?_ ?_ _) | (with_reducible refine Below.alloc ?_ ?_ _) | (with_reducible refine Below.drew ?_) | (with_reducible refine Below.setCell ?_ ?_ _) | (with_reducible refine Below.frame ?_ _) | (with_reducible exact Nat.le_refl _) | omega | (simp only [World.size_alloc, World.size_setCell, World.size_drew, setRow_size]; omega) | (simp; omega) | (simp; done)))) (hb4.mono (by (try simp only [World.size_alloc, World.size_setCell, World.size_drew, setRow_size]); omega)); clear hb4; (try clear hB hs); have hB := hB'; clear hB'; have hs := hB.size))
  go_ret
  exact ⟨rfl, hB⟩
set_option maxRecDepth 100000 in
set_option maxHeartbeats 8000000 in
theorem Asserts_U {l : List Int} {n : Int} {base : Option Addr} {cap : Nat} {w : World} (hb : byteOk l) (hl : LiesV (bytesV l) base w) (hcap : l.length ≤ cap) (h5 : l.length ≤ 5000) (hc : decodeC l n = 0) (hk : l.getD 2 0 = 3) :
    Calls Try.prog 6 #[.slice base l.length cap, .int .i64 n] w fun e w' => e = .returned (.bool true) ∧ Below w.heap.size w w' := by
  have hff := (decode_ok hc).2.2.frm
  have hf0 := (getD_in hb 4).1
  obtain ⟨from_, hf⟩ : ∃ x, l.getD 4 0 = x := ⟨_, rfl⟩
  obtain ⟨L, hL⟩ : ∃ L, newsD l n = L := ⟨_, rfl⟩
  rw [hf] at hff hf0
  have d1 : decide (0 ≤ from_) = true := decide_eq_true hf0
  have d2 : decide (from_ < n) = true := decide_eq_true hff
  have HC := Lib.hid hc
  have HK := Lib.hid hk
  have HF := Lib.hid hf
  have HW := Lib.hid hL
  clear hk hc hf hff hL
  have HB := Lib.hid hb
  have HL := Lib.hid hl
  have HN := Lib.hid (show l.length ≤ 140737488351232 by omega)
  have hd : decide ((5000 : Int) < (l.length : Int)) = false := decide_eq_false (by omega)
  have hd2 : decide (5000 < l.length) = false := decide_eq_false (by omega)
  clear hb hl
  go_enter Try.func6, Try.ntmps6
  go_wp2_with (first
    | (go_at_call 24; (with_reducible refine Calls.mono (Decode_U HB.out HL.out hcap HN.out HC.out HK.out HF.out HW.out) ?_); rintro e w1 ⟨nb, nc, rfl, hown, hb1⟩; have hB := hb1; have hs := hB.size; clear hb1 hown)
    | (go_at_call 15; (with_reducible refine Calls.mono (alive7 _) ?_); rintro e w2 ⟨rfl, hb2⟩; have hB' : Below w.heap.size w w2 := Below.trans (by (repeat' (first | (with_reducible exact Below.refl _ _) | (with_reducible assumption) | (show Below 0 _ _; with_reducible refine Below.mono (by assumption) (Nat.zero_le _)) | (with_reducible refine below_setRow ?_ ?_ _) | (with_reducible refine Below.alloc ?_ ?_ _) | (with_reducible refine Below.drew ?_) | (with_reducible refine Below.setCell ?_ ?_ _) | (with_reducible refine Below.frame ?_ _) | (with_reducible exact Nat.le_refl _) | omega | (simp only [World.size_alloc, World.size_setCell, World.size_drew, setRow_size]; omega) | (simp; omega) | (simp; done)))) (hb2.mono (by (try simp only [World.size_alloc, World.size_setCell, World.size_drew, setRow_size]); omega)); clear hb2; (try clear hB hs); have hB := hB'; clear hB'; have hs := hB.size)
    | (go_at_call 48; (with_reducible refine Calls.mono (KindOfU _ _ _ _ _) ?_); rintro e w3 ⟨rfl, hb3⟩; have hB' : Below w.heap.size w w3 := Below.trans (by (repeat' (first | (with_reducible exact Below.refl _ _) | (with_reducible assumption) | (show Below 0 _ _; with_reducible refine Below.mono (by assumption) (Nat.zero_le _)) | (with_reducible refine below_setRow ?_ ?_ _) | (with_reducible refine Below.alloc ?_ ?_ _) | (with_reducible refine Below.drew ?_) | (with_reducible refine Below.setCell ?_ ?_ _) | (with_reducible refine Below.frame ?_ _) | (with_reducible exact Nat.le_refl _) | omega | (simp only [World.size_alloc, World.size_setCell, World.size_drew, setRow_size]; omega) | (simp; omega) | (simp; done)))) (hb3.mono (by (try simp only [World.size_alloc, World.size_setCell, World.size_drew, setRow_size]); omega)); clear hb3; (try clear hB hs); have hB := hB'; clear hB'; have hs := hB.size)
    | (go_at_call 103; (with_reducible refine Calls.mono (SenderU _ _ _ _ _) ?_); rintro e w4 ⟨rfl, hb4⟩; have hB' : Below w.heap.size w w4 := Below.trans (by (repeat' (first | (with_reducible exact Below.refl _ _) | (with_reducible assumption) | (show Below 0 _ _; with_reducible refine Below.mono (by assumption) (Nat.zero_le _)) | (with_reducible refine below_setRow ?_ ?_ _) | (with_reducible refine Below.alloc ?_ ?_ _) | (with_reducible refine Below.drew ?_) | (with_reducible refine Below.setCell ?_ ?_ _) | (with_reducible refine Below.frame ?_ _) | (with_reducible exact Nat.le_refl _) | omega | (simp only [World.size_alloc, World.size_setCell, World.size_drew, setRow_size]; omega) | (simp; omega) | (simp; done)))) (hb4.mono (by (try simp only [World.size_alloc, World.size_setCell, World.size_drew, setRow_size]); omega)); clear hb4; (try clear hB hs); have hB := hB'; clear hB'; have hs := hB.size))
  go_ret
  exact ⟨rfl, hB⟩
theorem WireAsserts_calls (l : List Int) (base : Option Addr) (cap : Nat) (n : Int) (w : World) (hb : byteOk l) (hl : LiesV (bytesV l) base w) (hcap : l.length ≤ cap) :
    Calls Try.prog 6 #[.slice base l.length cap, .int .i64 n] w fun e w' => e = .returned (.bool true) ∧ Below w.heap.size w w' := by
  by_cases h5 : 5000 < l.length
  · exact Asserts_long h5
  · by_cases hc : decodeC l n = 0
    · rcases (decode_ok hc).2.2.kind with hk | hk | hk
      · exact Asserts_Q hb hl hcap (by omega) hc hk
      · exact Asserts_P hb hl hcap (by omega) hc hk
      · exact Asserts_U hb hl hcap (by omega) hc hk
    · exact Asserts_no hb hl hcap (by omega) rfl hc
end Go.Proofs.Ytklfkfnckdeifaa
