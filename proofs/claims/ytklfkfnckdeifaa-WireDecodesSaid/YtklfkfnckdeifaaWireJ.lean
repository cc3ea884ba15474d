/-
  The document's bytes of a note that is none of the wrong ones.
-/
import Derived.Test.YtklfkfnckdeifaaWireI
import Derived.Test.YtklfkfnckdeifaaWireG
namespace Go.Proofs.Ytklfkfnckdeifaa
set_option linter.unusedSimpArgs false
set_option linter.unusedVariables false
open Go.RowKit
attribute [local irreducible] Ear.Pl.wpQ Ear.Pa.wpQ Ear.Fe.wpQ Ear.Fa.wpQ sumP sumV digit putL setL by8 orL Ear.wd Ear.one Ear.clean riseFrom validN withinW newsL noteL bodyL noteE
theorem note_okE {n kind from_ round : Int} {heard : BitVec 128} {L : List Nt} (h : noteE n kind from_ round heard L = 0) : 1 ≤ n ∧ n ≤ 100 ∧ 0 ≤ from_ ∧ from_ < n ∧ (kind = 3 ∨ (1 ≤ round ∧ round ≤ 1099511627775)) ∧ (kind = 2 → withinW heard n = true) ∧ riseFrom n (-1) L = true := by
  unfold noteE at h
  obtain ⟨h1, h2, h3, h4, h5, h6, h7, h8⟩ := form_ok h
  refine ⟨h1, h2, h3, h4, ?_, ?_, h8⟩
  · by_cases e3 : kind = 3
    · exact .inl e3
    · rw [if_neg e3] at h5 h6; exact .inr ⟨h5, h6⟩
  · intro e2
    rw [if_pos e2] at h7; exact h7
/-- A byte of a set, its first bits. -/
def byP (v : BitVec 128) (k : Nat) : Nat → Int
  | 0 => 0
  | q + 1 => byP v k q + (if v.getLsbD (8 * k + q) = true then 2 ^ q else 0)
theorem byP_zero (v : BitVec 128) (k : Nat) : byP v k 0 = 0 := rfl
theorem byP_succ (v : BitVec 128) (k q : Nat) : byP v k (q + 1) = byP v k q + (if v.getLsbD (8 * k + q) = true then 2 ^ q else 0) := rfl
theorem byte_sum : ∀ x : BitVec 8, x.toNat = (if x.getLsbD 0 = true then 1 else 0) + (if x.getLsbD 1 = true then 2 else 0) + (if x.getLsbD 2 = true then 4 else 0) + (if x.getLsbD 3 = true then 8 else 0) + (if x.getLsbD 4 = true then 16 else 0) + (if x.getLsbD 5 = true then 32 else 0) + (if x.getLsbD 6 = true then 64 else 0) + (if x.getLsbD 7 = true then 128 else 0) := by decide +kernel
theorem byP_all (v : BitVec 128) (k : Nat) : byP v k 8 = by8 v k := by
  have h := byte_sum (v.extractLsb' (8 * k) 8)
  have e : ∀ t, t < 8 → (v.extractLsb' (8 * k) 8).getLsbD t = v.getLsbD (8 * k + t) := by
    intro t ht
    rw [BitVec.getLsbD_extractLsb']
    simp [ht]
  rw [e 0 (by omega), e 1 (by omega), e 2 (by omega), e 3 (by omega), e 4 (by omega), e 5 (by omega), e 6 (by omega), e 7 (by omega)] at h
  unfold by8
  rw [h]
  simp only [byP]
  cases v.getLsbD (8 * k + 0) <;> cases v.getLsbD (8 * k + 1) <;> cases v.getLsbD (8 * k + 2) <;> cases v.getLsbD (8 * k + 3) <;> cases v.getLsbD (8 * k + 4) <;> cases v.getLsbD (8 * k + 5) <;> cases v.getLsbD (8 * k + 6) <;> cases v.getLsbD (8 * k + 7) <;> rfl
theorem byP_in (v : BitVec 128) (k q : Nat) : 0 ≤ byP v k q ∧ byP v k q < 2 ^ q := by
  induction q with
  | zero => rw [byP_zero]; decide
  | succ q ih =>
    rw [byP_succ, Int.pow_succ]
    have : (0 : Int) < 2 ^ q := Int.pow_pos (by decide)
    split <;> omega
theorem RHas_m {v : BitVec 128} {m : Nat} {i : Int} {b : Bool} (hz : ∀ i, v.getLsbD i = true → i < 100) (h : v.getLsbD m = b) (hi : i = (m : Int)) (w : World) : Calls Try.prog 41 #[.agg #[.int .u32 (Ear.wd (v) 0), .int .u32 (Ear.wd (v) 1), .int .u32 (Ear.wd (v) 2), .int .u32 (Ear.wd (v) 3)], .int .i64 i] w fun e w' => e = .returned (.bool b) ∧ Below w.heap.size w w' := by
  subst hi
  by_cases hm : m < 100
  · rw [← h]; exact RHas_yes v m hm w
  · have : b = false := by
      cases b with
      | false => rfl
      | true => exact absurd (hz m h) hm
    subst this
    exact RHas_no v m (.inr (by omega)) w
theorem putL_one {x : Int} (h : 0 ≤ x ∧ x < 256) : putL x 1 1 = [x] := by
  unfold putL digit
  simp
  omega
theorem setL_succ (v : BitVec 128) (m : Nat) : setL v (m + 1) = setL v m ++ [by8 v m] := by unfold setL; rw [List.range_succ, List.map_append]; rfl
theorem RSum_m {l : List Int} {m : Nat} {v : Int} {base : Option Addr} {cap : Nat} {w : World} (hm : l.length = m) (hv : sumV l = v) (hb : byteOk l) (hn : m ≤ 100000) (hl : LiesV (bytesV l) base w) :
    Calls Try.prog 17 #[.slice base m cap] w fun e w' => e = .returned (.int .i64 v) ∧ Below w.heap.size w w' := by
  subst hm hv
  exact RSum_calls l base cap w hb (by omega) hl
theorem note_small {n : Int} {x : Nt} (hn : n ≤ 100) (h : validN n x = true) : 0 ≤ x.of_ ∧ x.of_ < 256 ∧ 0 ≤ x.kind ∧ x.kind < 256 := by
  unfold validN kindOk at h
  simp only [Bool.and_eq_true, Bool.or_eq_true, decide_eq_true_eq, beq_iff_eq] at h
  omega
theorem wrap_u8 {x : Int} (h : 0 ≤ x ∧ x < 256) : IntKind.u8.wrap x = x := by
  have e : x % 256 = x := by omega
  simp [IntKind.wrap, IntKind.bits, IntKind.signed, e]
attribute [local irreducible] byP
set_option maxRecDepth 100000 in
set_option maxHeartbeats 16000000 in
theorem RBytes_good {kind from_ round : Int} {N : Nat} {heard : BitVec 128} {L : List Nt} {nc : Nat} {nb : Option Addr} {w : World} (hk : kind = 1 ∨ kind = 2 ∨ kind = 3) (hE : noteE N kind from_ round heard L = 0) (hl : LiesV (ntsV L) nb w) :
    Calls Try.prog 21 #[.agg #[.int .i64 kind, .int .i64 from_, .int .i64 round, .int .u32 (Ear.wd heard 0), .int .u32 (Ear.wd heard 1), .int .u32 (Ear.wd heard 2), .int .u32 (Ear.wd heard 3), .slice nb L.length nc], .int .i64 (N : Int)] w fun e w' =>
      ∃ base cap, e = .returned (.tuple #[.slice base (bytesOf N kind from_ round heard L).length cap, .int .i64 0]) ∧ w'.ownsRow w.heap.size 5 1 (.slice base (bytesOf N kind from_ round heard L).length cap) (bytesOf N kind from_ round heard L).length (bytesV (bytesOf N kind from_ round heard L)) ∧ Below w.heap.size w w' := by
  obtain ⟨n1, n2, f1, f2, hr, hwi, hri⟩ := note_okE hE
  obtain ⟨hval, hlen⟩ := rise_each L (-1) hri
  have hL100 : L.length ≤ 100 := by omega
  have HL := Lib.hid hl
  have HVAL := Lib.hid hval
  have HWI := Lib.hid hwi
  have HRI := Lib.hid hri
  have HRR := Lib.hid hr
  have HK := Lib.hid hk
  have hm13 : (N + 7) / 8 ≤ 13 := by omega
  have k1 : 1 ≤ kind := by omega
  have k3 : kind ≤ 3 := by omega
  obtain ⟨lq, hlq⟩ : ∃ lq : List Int, (if kind = 3 then [101, 115, kind, (N : Int), from_] else [101, 115, kind, (N : Int), from_] ++ putL round 5 5) = lq := ⟨_, rfl⟩
  obtain ⟨la, hla⟩ : ∃ la, (if kind = 2 then lq ++ setL heard ((N + 7) / 8) else lq) = la := ⟨_, rfl⟩
  have hline : lineL N kind from_ round heard = la := by
    rw [← hla, ← hlq]
    unfold lineL headL
    rw [Int.toNat_natCast]
    rcases hk with rfl | rfl | rfl <;> rfl
  have HLINE := Lib.hid hline
  have HLQ := Lib.hid hlq
  have HLA := Lib.hid hla
  clear hline hlq hla hE hl hwi hri hr hval hlen hk
  go_enter Try.func21, Try.ntmps21
  go_upto_region 5 with fail
  refine Ear.wp_world (Ear.Sh w.heap.size w [(w.heap.size, _, _)]) (.cons (by (repeat' (first | (show Ear.Blk _ _ _ _; with_reducible assumption) | (with_reducible exact Ear.Blk.new _ _ _) | (with_reducible refine Ear.Blk.new' ?_; (simp only [World.size_alloc, World.size_setCell, World.size_drew, setRow_size]; done)) | (with_reducible apply Ear.Blk.alloc) | (with_reducible apply Ear.Blk.drew) | (with_reducible apply Ear.Blk.setC) | (with_reducible apply Ear.Blk.setC' (e := by omega)) | (with_reducible apply Ear.Blk.rowC (e := by first | rfl | omega)) | (with_reducible apply Ear.Blk.otherRow) | (with_reducible apply Ear.Blk.other) | (show _ ≠ _; (try simp only [World.size_alloc, World.size_setCell, World.size_drew, setRow_size]); omega) | (show _ < _; (try simp only [World.size_alloc, World.size_setCell, World.size_drew, setRow_size]); omega)))) (.nil (by (repeat' (first | (with_reducible exact Below.refl _ _) | (with_reducible assumption) | (show Below 0 _ _; with_reducible refine Below.mono (by assumption) (Nat.zero_le _)) | (with_reducible refine below_setRow ?_ ?_ _) | (with_reducible refine Below.alloc ?_ ?_ _) | (with_reducible refine Below.drew ?_) | (with_reducible refine Below.setCell ?_ ?_ _) | (with_reducible refine Below.frame ?_ _) | (with_reducible exact Nat.le_refl _) | omega | (simp only [World.size_alloc, World.size_setCell, World.size_drew, setRow_size]; omega) | (simp; omega) | (simp; done)))))) ?_; (try clear hf_l); (try clear hf_c); (try clear hf_f); (try clear hf); (try clear hB hs); rintro w1 ⟨hf, hB⟩; replace hB : Below w.heap.size w w1 := hB; have hs := hB.size; (try simp only [List.set_cons_zero, List.set_cons_succ] at hf); have hf_l := hf.lt; have hf_c := hf.cell; have hf_f := hf.frozen
  go_cut [38] from 26 to 38 (fun b wx => b = .bool false ∧ wx = w1)
  case first =>
    rcases HK.out with rfl | rfl | rfl
    · obtain ⟨r1, r2⟩ : 1 ≤ round ∧ round ≤ 1099511627775 := by have := HRR.out; omega
      go_wp2
      go_meet
      exact ⟨by rw [decide_eq_false (by omega : ¬ round < 1), decide_eq_false (by omega : ¬ 1099511627775 < round)]; rfl, rfl⟩
    · obtain ⟨r1, r2⟩ : 1 ≤ round ∧ round ≤ 1099511627775 := by have := HRR.out; omega
      go_wp2
      go_meet
      exact ⟨by rw [decide_eq_false (by omega : ¬ round < 1), decide_eq_false (by omega : ¬ 1099511627775 < round)]; rfl, rfl⟩
    · go_wp2
      go_meet
      exact ⟨rfl, rfl⟩
  case rest =>
    obtain ⟨rfl, rfl⟩ := hcut
    go_upto_region 7 with fail
    obtain ⟨wa, hwa⟩ : ∃ wa, wa = wc := ⟨_, rfl⟩
    subst hwa
    go_cut [48] from 39 to 48 (fun b wx => b = .bool false ∧ Hid (Ear.Blk wx w.heap.size 33 [.int .i64 kind, .int .i64 from_, .int .i64 round, .int .u32 (Ear.wd heard 0), .int .u32 (Ear.wd heard 1), .int .u32 (Ear.wd heard 2), .int .u32 (Ear.wd heard 3), .slice nb L.length nc]) ∧ Below w.heap.size w wx)
    case first =>
      rcases HK.out with rfl | rfl | rfl
      · go_wp2
        go_meet
        exact ⟨rfl, Lib.hid hf, hB⟩
      · have HW := Lib.hid (HWI.out rfl)
        go_wp2_with (go_at_call 38; (with_reducible refine Calls.mono (RWithinW_eq HW.out _) ?_); rintro e w2 ⟨rfl, hb2⟩; have hB' : Below w.heap.size w w2 := Below.trans (by (repeat' (first | (with_reducible exact Below.refl _ _) | (with_reducible assumption) | (show Below 0 _ _; with_reducible refine Below.mono (by assumption) (Nat.zero_le _)) | (with_reducible refine below_setRow ?_ ?_ _) | (with_reducible refine Below.alloc ?_ ?_ _) | (with_reducible refine Below.drew ?_) | (with_reducible refine Below.setCell ?_ ?_ _) | (with_reducible refine Below.frame ?_ _) | (with_reducible exact Nat.le_refl _) | omega | (simp only [World.size_alloc, World.size_setCell, World.size_drew, setRow_size]; omega) | (simp; omega) | (simp; done)))) (hb2.mono (by (try simp only [World.size_alloc, World.size_setCell, World.size_drew, setRow_size]); omega)); have hf' := (show Ear.Blk w2 (w.heap.size) _ _ from by (repeat' (first | (show Ear.Blk _ _ _ _; with_reducible assumption) | (with_reducible exact Ear.Blk.new _ _ _) | (with_reducible refine Ear.Blk.new' ?_; (simp only [World.size_alloc, World.size_setCell, World.size_drew, setRow_size]; done)) | (with_reducible apply Ear.Blk.alloc) | (with_reducible apply Ear.Blk.drew) | (with_reducible apply Ear.Blk.setC) | (with_reducible apply Ear.Blk.setC' (e := by omega)) | (with_reducible apply Ear.Blk.rowC (e := by first | rfl | omega)) | (with_reducible apply Ear.Blk.otherRow) | (with_reducible apply Ear.Blk.other) | (with_reducible apply Ear.Blk.below (hb := hb2)) | (show _ ≠ _; (try simp only [World.size_alloc, World.size_setCell, World.size_drew, setRow_size]); omega) | (show _ < _; (try simp only [World.size_alloc, World.size_setCell, World.size_drew, setRow_size]); omega)))); clear hb2; (try clear hf_l); (try clear hf_c); (try clear hf_f); (try clear hf); have hf := hf'; clear hf'; (try simp only [List.set_cons_zero, List.set_cons_succ] at hf); have hf_l := hf.lt; have hf_c := hf.cell; have hf_f := hf.frozen; (try clear hB hs); have hB := hB'; clear hB'; have hs := hB.size)
        go_meet
        exact ⟨rfl, Lib.hid hf, hB⟩
      · go_wp2
        go_meet
        exact ⟨rfl, Lib.hid hf, hB⟩
    case rest =>
      clear hf hf_l hf_c hf_f hB hs
      obtain ⟨rfl, HF, hB⟩ := hcut
      have hf := HF.out
      have hf_l := hf.lt
      have hf_c := hf.cell
      have hf_f := hf.frozen
      have hs := hB.size
      go_upto_if 65 with (go_at_call 39; (with_reducible refine Calls.mono (RRising_eq HRI.out _ _ _ (by omega) (LiesV.below HL.out hB)) ?_); rintro e w3 ⟨rfl, hb3⟩; have hB' : Below w.heap.size w w3 := Below.trans (by (repeat' (first | (with_reducible exact Below.refl _ _) | (with_reducible assumption) | (show Below 0 _ _; with_reducible refine Below.mono (by assumption) (Nat.zero_le _)) | (with_reducible refine below_setRow ?_ ?_ _) | (with_reducible refine Below.alloc ?_ ?_ _) | (with_reducible refine Below.drew ?_) | (with_reducible refine Below.setCell ?_ ?_ _) | (with_reducible refine Below.frame ?_ _) | (with_reducible exact Nat.le_refl _) | omega | (simp only [World.size_alloc, World.size_setCell, World.size_drew, setRow_size]; omega) | (simp; omega) | (simp; done)))) (hb3.mono (by (try simp only [World.size_alloc, World.size_setCell, World.size_drew, setRow_size]); omega)); have hf' := (show Ear.Blk w3 (w.heap.size) _ _ from by (repeat' (first | (show Ear.Blk _ _ _ _; with_reducible assumption) | (with_reducible exact Ear.Blk.new _ _ _) | (with_reducible refine Ear.Blk.new' ?_; (simp only [World.size_alloc, World.size_setCell, World.size_drew, setRow_size]; done)) | (with_reducible apply Ear.Blk.alloc) | (with_reducible apply Ear.Blk.drew) | (with_reducible apply Ear.Blk.setC) | (with_reducible apply Ear.Blk.setC' (e := by omega)) | (with_reducible apply Ear.Blk.rowC (e := by first | rfl | omega)) | (with_reducible apply Ear.Blk.otherRow) | (with_reducible apply Ear.Blk.other) | (with_reducible apply Ear.Blk.below (hb := hb3)) | (show _ ≠ _; (try simp only [World.size_alloc, World.size_setCell, World.size_drew, setRow_size]); omega) | (show _ < _; (try simp only [World.size_alloc, World.size_setCell, World.size_drew, setRow_size]); omega)))); clear hb3; (try clear hf_l); (try clear hf_c); (try clear hf_f); (try clear hf); have hf := hf'; clear hf'; (try simp only [List.set_cons_zero, List.set_cons_succ] at hf); have hf_l := hf.lt; have hf_c := hf.cell; have hf_f := hf.frozen; (try clear hB hs); have hB := hB'; clear hB'; have hs := hB.size)
      have hown1 := owns_of_blkB (lo := w3.heap.size) (n := 5) (s := 1) (W := w3.alloc (.cells #[.int .u8 101, .int .u8 115, .int .u8 kind, .int .u8 (N : Int), .int .u8 from_] 5)) (B := w3.heap.size) (e := 5) (cs := bytesV [101, 115, kind, (N : Int), from_]) (by exact Ear.Blk.new w3 _ _) (Nat.le_refl _) rfl (by unfold maxLen; omega)
      have HOWN1 := Lib.hid hown1
      clear hown1 HF
      go_cut [6] (fun b wx => ∃ lo bb cc, b = .slice bb lq.length cc ∧ Hid (wx.ownsRow lo 5 1 (.slice bb lq.length cc) lq.length (bytesV lq)) ∧ w.heap.size < lo ∧ lo ≤ wx.heap.size ∧ Below w.heap.size w wx ∧ Hid (Ear.Blk wx w.heap.size 33 [.int .i64 kind, .int .i64 from_, .int .i64 round, .int .u32 (Ear.wd heard 0), .int .u32 (Ear.wd heard 1), .int .u32 (Ear.wd heard 2), .int .u32 (Ear.wd heard 3), .slice nb L.length nc]))
      case first =>
        have e := HLQ.out
        by_cases e3 : kind = 3
        · subst e3
          rw [if_pos rfl] at e
          subst e
          go_wp2
          go_meet
          exact ⟨w3.heap.size, _, _, rfl, HOWN1.out, hf_l, by simp, by (repeat' (first | (with_reducible exact Below.refl _ _) | (with_reducible assumption) | (show Below 0 _ _; with_reducible refine Below.mono (by assumption) (Nat.zero_le _)) | (with_reducible refine below_setRow ?_ ?_ _) | (with_reducible refine Below.alloc ?_ ?_ _) | (with_reducible refine Below.drew ?_) | (with_reducible refine Below.setCell ?_ ?_ _) | (with_reducible refine Below.frame ?_ _) | (with_reducible exact Nat.le_refl _) | omega | (simp only [World.size_alloc, World.size_setCell, World.size_drew, setRow_size]; omega) | (simp; omega) | (simp; done))), Lib.hid (by (repeat' (first | (show Ear.Blk _ _ _ _; with_reducible assumption) | (with_reducible exact Ear.Blk.new _ _ _) | (with_reducible refine Ear.Blk.new' ?_; (simp only [World.size_alloc, World.size_setCell, World.size_drew, setRow_size]; done)) | (with_reducible apply Ear.Blk.alloc) | (with_reducible apply Ear.Blk.drew) | (with_reducible apply Ear.Blk.setC) | (with_reducible apply Ear.Blk.setC' (e := by omega)) | (with_reducible apply Ear.Blk.rowC (e := by first | rfl | omega)) | (with_reducible apply Ear.Blk.otherRow) | (with_reducible apply Ear.Blk.other) | (show _ ≠ _; (try simp only [World.size_alloc, World.size_setCell, World.size_drew, setRow_size]); omega) | (show _ < _; (try simp only [World.size_alloc, World.size_setCell, World.size_drew, setRow_size]); omega))))⟩
        · have e3' : (kind != 3) = true := by rw [bne_iff_ne]; exact e3
          rw [if_neg e3] at e
          obtain ⟨r1, r2⟩ : 1 ≤ round ∧ round ≤ 1099511627775 := by have := HRR.out; omega
          have HQ10 := Lib.hid (show lq.length = 10 by rw [← e]; simp [putL_len])
          have HE := Lib.hid e
          clear e
          go_wp2_with (go_at_call 40; (with_reducible refine Calls.mono (RNum_r (q := w.heap.size) (w0 := w) (m := 5) (r := lq.length) (l := [101, 115, kind, (N : Int), from_]) 5 rfl rfl (by have := HQ10.out; omega) HE.out (by omega) (by omega) (by omega) HOWN1.out (by simp) (by omega) (by (repeat' (first | (with_reducible exact Below.refl _ _) | (with_reducible assumption) | (show Below 0 _ _; with_reducible refine Below.mono (by assumption) (Nat.zero_le _)) | (with_reducible refine below_setRow ?_ ?_ _) | (with_reducible refine Below.alloc ?_ ?_ _) | (with_reducible refine Below.drew ?_) | (with_reducible refine Below.setCell ?_ ?_ _) | (with_reducible refine Below.frame ?_ _) | (with_reducible exact Nat.le_refl _) | omega | (simp only [World.size_alloc, World.size_setCell, World.size_drew, setRow_size]; omega) | (simp; omega) | (simp; done))))) ?_); rintro e w4 ⟨b2, c2, rfl, hown2, hk2, hB2, hlo2⟩; have HO2 := Lib.hid hown2; have hf2 : Ear.Blk w4 w.heap.size _ _ := Ear.Blk.keep (by (repeat' (first | (show Ear.Blk _ _ _ _; with_reducible assumption) | (with_reducible exact Ear.Blk.new _ _ _) | (with_reducible refine Ear.Blk.new' ?_; (simp only [World.size_alloc, World.size_setCell, World.size_drew, setRow_size]; done)) | (with_reducible apply Ear.Blk.alloc) | (with_reducible apply Ear.Blk.drew) | (with_reducible apply Ear.Blk.setC) | (with_reducible apply Ear.Blk.setC' (e := by omega)) | (with_reducible apply Ear.Blk.rowC (e := by first | rfl | omega)) | (with_reducible apply Ear.Blk.otherRow) | (with_reducible apply Ear.Blk.other) | (show _ ≠ _; (try simp only [World.size_alloc, World.size_setCell, World.size_drew, setRow_size]); omega) | (show _ < _; (try simp only [World.size_alloc, World.size_setCell, World.size_drew, setRow_size]); omega)))) hk2 (fun h => by have := h.1; omega); have HF2 := Lib.hid hf2; clear hown2 hk2 hf2)
          go_meet
          exact ⟨w3.heap.size, b2, c2, rfl, HO2.out, hf_l, hlo2, hB2, HF2⟩
      case rest =>
        clear HOWN1 hf hf_l hf_c hf_f hB hs
        obtain ⟨lo, bb, cc, rfl, HO, hlo, hlw, hB, HF⟩ := hcut
        have hf := HF.out
        have hf_l := hf.lt
        have hf_c := hf.cell
        have hf_f := hf.frozen
        go_upto_if 72 with fail
        go_cut [6, 7, 8, 9] (fun b _ _ _ wx => ∃ lo bb cc, b = .slice bb la.length cc ∧ Hid (wx.ownsRow lo 5 1 (.slice bb la.length cc) la.length (bytesV la)) ∧ w.heap.size < lo ∧ lo ≤ wx.heap.size ∧ Below w.heap.size w wx ∧ Hid (Ear.Blk wx w.heap.size 33 [.int .i64 kind, .int .i64 from_, .int .i64 round, .int .u32 (Ear.wd heard 0), .int .u32 (Ear.wd heard 1), .int .u32 (Ear.wd heard 2), .int .u32 (Ear.wd heard 3), .slice nb L.length nc]))
        case first =>
          have e := HLA.out
          by_cases e2 : kind = 2
          · have e2' : (kind == 2) = true := by rw [beq_iff_eq]; exact e2
            rw [if_pos e2] at e
            have hbit := (within_clean n2 (HWI.out e2)).2
            rw [Int.toNat_natCast] at hbit
            have HBIT := Lib.hid hbit
            have HQ10 := Lib.hid (show lq.length = 10 by rw [← HLQ.out, if_neg (by omega)]; simp [putL_len])
            have HLAL := Lib.hid (show la.length = lq.length + (N + 7) / 8 by rw [← e]; simp [setL_len])
            have HE := Lib.hid e
            clear e e2 hbit
            have hz100 : ∀ i, heard.getLsbD i = true → i < 100 := fun i hi => by have := HBIT.out i hi; omega
            have HZ := Lib.hid hz100
            obtain ⟨i0, hi, hz0, hz1, hz2⟩ := info_parts info_u8
            have HI := Lib.hid hi
            have HZ0 := Lib.hid hz0
            have HZ1 := Lib.hid hz1
            have HZ2 := Lib.hid hz2
            clear hz100 hi hz0 hz1 hz2
            go_wp2
            rw [e2']
            go_loopw [6, 7, 8, 9] (fun b k _ _ wr => ∃ (j : Nat) (bb : Option Addr) (cc : Nat), j ≤ (N + 7) / 8 ∧ k = .int .i64 j ∧ b = .slice bb (lq.length + j) cc ∧ Hid (wr.ownsRow lo 5 1 (.slice bb (lq.length + j) cc) (lq.length + j) (bytesV (lq ++ setL heard j))) ∧ lo ≤ wr.heap.size ∧ Below w.heap.size w wr ∧ Hid (Ear.Blk wr w.heap.size 33 [.int .i64 kind, .int .i64 from_, .int .i64 round, .int .u32 (Ear.wd heard 0), .int .u32 (Ear.wd heard 1), .int .u32 (Ear.wd heard 2), .int .u32 (Ear.wd heard 3), .slice nb L.length nc])) (fun _ k _ _ _ => (N + 7) / 8 - (intOf k).toNat)
            case atStart => exact ⟨0, bb, cc, by omega, rfl, rfl, by rw [show setL heard 0 = [] from by unfold setL; rfl, List.append_nil]; exact HO, hlw, hB, HF⟩
            case round =>
              clear HO hlw hB HF hf hf_l hf_c hf_f
              obtain ⟨j, bb, cc, hj, rfl, rfl, HO, hlw, hB, HF⟩ := hrel
              have hf := HF.out
              have hf_l := hf.lt
              have hf_c := hf.cell
              by_cases hlt : j < (N + 7) / 8
              · have HW := Lib.hid (wrap_bk j 13 (by omega) (by omega))
                have HSL := Lib.hid (show bytesV (lq ++ setL heard (j + 1)) = bytesV (lq ++ setL heard j) ++ [.int .u8 (by8 heard j)] by rw [setL_succ, ← List.append_assoc, bytesV_append]; rfl)
                go_wp2
                have hd : decide ((j : Int) < ((N : Int) + 7) / 8) = true := decide_eq_true (by omega)
                rw [hd]
                go_loopw [8, 9] (fun v i wr => ∃ q : Nat, q ≤ 8 ∧ i = .int .i64 q ∧ v = .int .i64 (byP heard j q) ∧ Hid (wr.ownsRow lo 5 1 (.slice bb (lq.length + j) cc) (lq.length + j) (bytesV (lq ++ setL heard j))) ∧ lo ≤ wr.heap.size ∧ Below w.heap.size w wr ∧ Hid (Ear.Blk wr w.heap.size 33 [.int .i64 kind, .int .i64 from_, .int .i64 round, .int .u32 (Ear.wd heard 0), .int .u32 (Ear.wd heard 1), .int .u32 (Ear.wd heard 2), .int .u32 (Ear.wd heard 3), .slice nb L.length nc])) (fun _ i _ => 8 - (intOf i).toNat)
                case atStart => exact ⟨0, by omega, rfl, by rw [byP_zero], HO, hlw, hB, HF⟩
                case round =>
                  clear HO hlw hB HF hf hf_l hf_c
                  obtain ⟨q, hq, rfl, rfl, HO, hlw, hB, HF⟩ := hrel
                  have hf := HF.out
                  have hf_l := hf.lt
                  have hf_c := hf.cell
                  have hs := hB.size
                  by_cases hq8 : q < 8
                  · have hps := byP_succ heard j q
                    obtain ⟨p0, p1⟩ := byP_in heard j q
                    obtain ⟨bt, hbt⟩ : ∃ bt, heard.getLsbD (8 * j + q) = bt := ⟨_, rfl⟩
                    rw [hbt] at hps
                    have HBT := Lib.hid hbt
                    have HPS := Lib.hid hps
                    obtain ⟨P, hP⟩ : ∃ P, byP heard j q = P := ⟨_, rfl⟩
                    rw [hP] at HPS p0 p1
                    rw [hP]
                    clear hbt hps hP
                    have HWQ := Lib.hid (wrap_bk q 8 hq8 (by omega))
                    cases bt with
                    | false =>
                      go_wp2_with (go_at_call 41; (with_reducible refine Calls.mono (RHas_m HZ.out HBT.out (by omega) _) ?_); rintro e w4 ⟨rfl, hb4⟩; have HO4 := Lib.hid (owns_below HO.out hb4); have hlo4 := Nat.le_trans hlw hb4.size; have hB4 := hB.trans (hb4.mono hs); have HF4 := Lib.hid (hf.below hb4 hf_l); clear hb4)
                      go_roundw
                      case rel => exact ⟨q + 1, by omega, by first | rfl | rw [HWQ.out], by rw [HPS.out]; simp, HO4, hlo4, hB4, HF4⟩
                      case measure => first | (rw [HWQ.out]; simp [intOf]; omega) | (simp [intOf]; omega) | (simp [intOf])
                    | true =>
                      have hqq : q = 0 ∨ q = 1 ∨ q = 2 ∨ q = 3 ∨ q = 4 ∨ q = 5 ∨ q = 6 ∨ q = 7 := by omega
                      clear HWQ
                      rcases hqq with rfl | rfl | rfl | rfl | rfl | rfl | rfl | rfl
                      all_goals
                        go_wp2_with (go_at_call 41; (with_reducible refine Calls.mono (RHas_m HZ.out HBT.out (by omega) _) ?_); rintro e w4 ⟨rfl, hb4⟩; have HO4 := Lib.hid (owns_below HO.out hb4); have hlo4 := Nat.le_trans hlw hb4.size; have hB4 := hB.trans (hb4.mono hs); have HF4 := Lib.hid (hf.below hb4 hf_l); clear hb4)
                        go_roundw
                        case rel => first | exact ⟨1, by decide, rfl, by rw [HPS.out]; rfl, HO4, hlo4, hB4, HF4⟩ | exact ⟨2, by decide, rfl, by rw [HPS.out]; rfl, HO4, hlo4, hB4, HF4⟩ | exact ⟨3, by decide, rfl, by rw [HPS.out]; rfl, HO4, hlo4, hB4, HF4⟩ | exact ⟨4, by decide, rfl, by rw [HPS.out]; rfl, HO4, hlo4, hB4, HF4⟩ | exact ⟨5, by decide, rfl, by rw [HPS.out]; rfl, HO4, hlo4, hB4, HF4⟩ | exact ⟨6, by decide, rfl, by rw [HPS.out]; rfl, HO4, hlo4, hB4, HF4⟩ | exact ⟨7, by decide, rfl, by rw [HPS.out]; rfl, HO4, hlo4, hB4, HF4⟩ | exact ⟨8, by decide, rfl, by rw [HPS.out]; rfl, HO4, hlo4, hB4, HF4⟩
                        case measure => (simp [intOf]) <;> omega
                  · have hq' : q = 8 := by omega
                    subst hq'
                    have hby := byP_all heard j
                    obtain ⟨y0, y1⟩ := by8_in heard j
                    rw [hby]
                    obtain ⟨y, hy⟩ : ∃ y, by8 heard j = y := ⟨_, rfl⟩
                    rw [hy] at y0 y1 HSL
                    rw [hy]
                    clear hby hy
                    go_wp2_with (at_builtin; refine wpList_append_own _ rfl _ _ 22 rfl lo 5 i0 _ 1 1 Try.underlying22 HI.out HZ0.out HZ1.out HZ2.out rfl (by decide) _ _ _ rfl (HO.out.alloc _) ⟨wr.heap.size, 0, none⟩ 1 1 _ rfl rfl (Ear.cells_new wr _ _) ?c2 ?c3 ?c4 ?c5 ?_)
                    case c2 => simp [Value.oneCell']
                    case c3 => unfold maxLen; have := HQ10.out; omega
                    case c4 => have := HQ10.out; omega
                    case c5 => simp; omega
                    intro v' w5 hown' hgrow _
                    have hne := own_type_ne (HO.out.alloc (.cells #[.int .u8 y] 5)) (hf.alloc (.cells #[.int .u8 y] 5)) (by decide)
                    have hf5 := (hf.alloc (.cells #[.int .u8 y] 5)).grown hgrow hne
                    have hB5 : Below w.heap.size w w5 := (hB.alloc hs (.cells #[.int .u8 y] 5)).grown hgrow (by simp; omega) (fun k hk => by have := ((HO.out.alloc (.cells #[.int .u8 y] 5)).lt k hk).1; omega)
                    have hlo5 : lo ≤ w5.heap.size := by have := hgrow.size; simp at this; omega
                    obtain ⟨base2, cap2, rfl⟩ := owns_slice hown'
                    have HO5 := Lib.hid hown'
                    have HF5 := Lib.hid hf5
                    clear hown' hgrow hne hf5
                    go_wp2
                    go_roundw
                    case rel => exact ⟨j + 1, base2, cap2, hlt, by first | rfl | rw [HW.out], rfl, by rw [HSL.out]; exact HO5.out, hlo5, hB5, HF5⟩
                    case measure => first | (rw [HW.out]; simp [intOf]; omega) | (simp [intOf]; omega) | (simp [intOf])
              · have hj' : j = (N + 7) / 8 := by omega
                have hs := hB.size
                rw [hj', HE.out] at HO
                have HJ := Lib.hid hj'
                clear hj'
                go_wp2
                go_meet
                exact ⟨lo, bb, cc, by rw [HLAL.out, HJ.out], by rw [HLAL.out]; exact HO, hlo, hlw, hB, HF⟩
          · have e2' : (kind == 2) = false := beq_eq_false_iff_ne.2 e2
            rw [if_neg e2] at e
            subst e
            go_wp2
            go_meet
            exact ⟨lo, bb, cc, rfl, HO.out, hlo, hlw, hB, HF⟩
        case rest =>
          clear HO HF hf hf_l hf_c hf_f hB hlw hlo
          obtain ⟨lo, bb, cc, rfl, HO, hlo, hlw, hB, HF⟩ := hcut
          obtain ⟨wb, hwb⟩ : ∃ wb, wb = wc := ⟨_, rfl⟩
          subst hwb
          have hf := HF.out
          have hf_l := hf.lt
          have hf_c := hf.cell
          have hs := hB.size
          obtain ⟨i0, hi, hz0, hz1, hz2⟩ := info_parts info_u8
          have HI := Lib.hid hi
          have HZ0 := Lib.hid hz0
          have HZ1 := Lib.hid hz1
          have HZ2 := Lib.hid hz2
          have hal : la.length ≤ 23 := by
            rw [← HLA.out, ← HLQ.out]
            split <;> split <;> simp [putL_len, setL_len] <;> omega
          obtain ⟨fl, hfl⟩ : ∃ fl, la ++ putL (L.length : Int) 1 1 = fl := ⟨_, rfl⟩
          have HFLL := Lib.hid (show fl.length = la.length + 1 by rw [← hfl]; simp [putL_len])
          have hfl24 : fl.length ≤ 24 := by have := HFLL.out; omega
          have HBODY := Lib.hid (show fl ++ newsL L = bodyL N kind from_ round heard L by rw [← hfl, ← HLINE.out]; unfold bodyL foreL; rfl)
          have HBF := Lib.hid (show bytesV fl = bytesV la ++ [.int .u8 (L.length : Int)] by rw [← hfl, bytesV_append, putL_one ⟨by omega, by omega⟩]; rfl)
          clear hfl hi hz0 hz1 hz2
          go_wp2_with (at_builtin; refine wpList_append_own _ rfl _ _ 22 rfl lo 5 i0 _ 1 1 Try.underlying22 HI.out HZ0.out HZ1.out HZ2.out rfl (by decide) _ _ _ rfl (HO.out.alloc _) ⟨wb.heap.size, 0, none⟩ 1 1 _ rfl rfl (Ear.cells_new wb _ _) ?c2 ?c3 ?c4 ?c5 ?_)
          case c2 => simp [Value.oneCell']
          case c3 => unfold maxLen; omega
          case c4 => omega
          case c5 => simp; omega
          intro v' w5 hown' hgrow _
          have hne := own_type_ne (HO.out.alloc (.cells #[.int .u8 (L.length : Int)] 5)) (hf.alloc (.cells #[.int .u8 (L.length : Int)] 5)) (by decide)
          have hf5 := (hf.alloc (.cells #[.int .u8 (L.length : Int)] 5)).grown hgrow hne
          have hB5 : Below w.heap.size w w5 := (hB.alloc hs (.cells #[.int .u8 (L.length : Int)] 5)).grown hgrow (by simp; omega) (fun k hk => by have := ((HO.out.alloc (.cells #[.int .u8 (L.length : Int)] 5)).lt k hk).1; omega)
          have hlo5 : lo ≤ w5.heap.size := by have := hgrow.size; simp at this; omega
          obtain ⟨base2, cap2, rfl⟩ := owns_slice hown'
          rw [← HBF.out, ← HFLL.out] at hown'
          have HO5 := Lib.hid hown'
          have HF5 := Lib.hid hf5
          clear hown' hgrow hne hf5 HO HF hf hf_l hf_c hB hs hlw
          go_wp2
          go_loopw [6, 10] (fun b i wr => ∃ (k : Nat) (bb : Option Addr) (cc : Nat), k ≤ L.length ∧ i = .int .i64 k ∧ b = .slice bb (fl.length + k * 5) cc ∧ Hid (wr.ownsRow lo 5 1 (.slice bb (fl.length + k * 5) cc) (fl.length + k * 5) (bytesV (fl ++ newsL (L.take k)))) ∧ lo ≤ wr.heap.size ∧ Below w.heap.size w wr ∧ Hid (Ear.Blk wr w.heap.size 33 [.int .i64 kind, .int .i64 from_, .int .i64 round, .int .u32 (Ear.wd heard 0), .int .u32 (Ear.wd heard 1), .int .u32 (Ear.wd heard 2), .int .u32 (Ear.wd heard 3), .slice nb L.length nc])) (fun _ i _ => L.length - (intOf i).toNat)
          case atStart => exact ⟨0, base2, cap2, by omega, rfl, by rw [HFLL.out, Nat.zero_mul, Nat.add_zero], by rw [Nat.zero_mul, Nat.add_zero, List.take_zero, show newsL [] = [] from by unfold newsL; rfl, List.append_nil]; exact HO5, hlo5, hB5, HF5⟩
          case round =>
            clear HO5 hlo5 hB5 HF5
            obtain ⟨k, bb, cc, hkn, rfl, rfl, HO, hlw, hB, HF⟩ := hrel
            have hf := HF.out
            have hf_l := hf.lt
            have hf_c := hf.cell
            have hf_f := hf.frozen
            have hs := hB.size
            by_cases hlt : k < L.length
            · obtain ⟨x, hx⟩ : ∃ x, L[k] = x := ⟨_, rfl⟩
              have hv := HVAL.out x (hx ▸ List.getElem_mem hlt)
              obtain ⟨v1, v2, v3⟩ := note_in hv
              obtain ⟨s1, s2, s3, s4⟩ := note_small n2 hv
              obtain ⟨Bn, on, rfl, hBn, a0, a1, a2⟩ := nts_get k hlt HL.out hB (Nat.le_refl _)
              rw [hx] at a0 a1 a2
              have HX := Lib.hid hx
              have HW := Lib.hid (wrap_bk k L.length hlt (by omega))
              obtain ⟨lk, hlk⟩ : ∃ lk, fl ++ newsL (L.take k) = lk := ⟨_, rfl⟩
              have HM := Lib.hid (show lk.length = fl.length + k * 5 by rw [← hlk, List.length_append, newsL_len, List.length_take]; omega)
              have HM2 := Lib.hid (show (lk ++ [x.of_, x.kind]).length = fl.length + k * 5 + 2 by rw [List.length_append, HM.out]; rfl)
              have HNX := Lib.hid (show (lk ++ [x.of_, x.kind]) ++ putL x.tag 3 3 = fl ++ newsL (L.take (k + 1)) by rw [newsL_succ L k hlt, hx, ← hlk]; unfold noteL; rw [putL_one ⟨by omega, by omega⟩, putL_one ⟨by omega, by omega⟩]; simp only [List.append_assoc, List.singleton_append, List.cons_append, List.nil_append])
              have HBV := Lib.hid (show bytesV (lk ++ [x.of_, x.kind]) = bytesV lk ++ [.int .u8 (IntKind.u8.wrap x.of_), .int .u8 (IntKind.u8.wrap x.kind)] by rw [bytesV_append, wrap_u8 ⟨s1, s2⟩, wrap_u8 ⟨s3, s4⟩]; rfl)
              rw [hlk] at HO
              obtain ⟨xo, xt, xk⟩ := x
              dsimp only at a0 a1 a2 v1 v2 v3 s1 s2 s3 s4 HM2 HNX HBV
              clear hx hv hlk
              go_wp2
              have HRA := Lib.hid (owns_below (HO.out.alloc (.cells #[.int .u8 (IntKind.u8.wrap xo), .int .u8 (IntKind.u8.wrap xk)] 5)) ((Below.refl _ (wr.alloc (.cells #[.int .u8 (IntKind.u8.wrap xo), .int .u8 (IntKind.u8.wrap xk)] 5))).drew))
              have hfa : Ear.Blk (wr.alloc (.cells #[.int .u8 (IntKind.u8.wrap xo), .int .u8 (IntKind.u8.wrap xk)] 5)).drew w.heap.size _ _ := hf.alloc (.cells #[.int .u8 (IntKind.u8.wrap xo), .int .u8 (IntKind.u8.wrap xk)] 5)
              have hBa : Below w.heap.size w (wr.alloc (.cells #[.int .u8 (IntKind.u8.wrap xo), .int .u8 (IntKind.u8.wrap xk)] 5)).drew := (hB.alloc hs (.cells #[.int .u8 (IntKind.u8.wrap xo), .int .u8 (IntKind.u8.wrap xk)] 5)).drew
              have hca : ∀ j u, [Value.int .u8 (IntKind.u8.wrap xo), Value.int .u8 (IntKind.u8.wrap xk)][j]? = some u → (wr.alloc (.cells #[.int .u8 (IntKind.u8.wrap xo), .int .u8 (IntKind.u8.wrap xk)] 5)).drew.cell? ((⟨wr.heap.size, 0, none⟩ : Addr).add j) = some u := Ear.cells_new wr [.int .u8 (IntKind.u8.wrap xo), .int .u8 (IntKind.u8.wrap xk)] _
              refine wp_region_any (by kernel_rfl) ?_; (try change wpAny _ _ _ _ _ _ _ (World.drew _))
              (refine wpAny_take (i := 0) (v := ?_) rfl (by kernel_rfl) (by kernel_rfl) (by kernel_rfl) (fun _ _ _ h => h) (Or.inl ⟨by rfl, ?_⟩) ?_; rotate_left; (focus (intro _; (go_simp); (try (with_reducible rfl)))); (try dsimp only [Act.put, List.setIfInBounds_toArray, List.set_cons_succ, List.set_cons_zero])); (refine wpAny_take (i := 1) (v := ?_) rfl (by kernel_rfl) (by kernel_rfl) (by kernel_rfl) (fun _ _ _ h => h) (Or.inl ⟨by rfl, ?_⟩) ?_; rotate_left; (focus (intro _; (go_simp); (try (with_reducible rfl)))); (try dsimp only [Act.put, List.setIfInBounds_toArray, List.set_cons_succ, List.set_cons_zero])); (refine wpAny_take (i := 3) (v := ?_) rfl (by kernel_rfl) (by kernel_rfl) (by kernel_rfl) (fun _ _ _ h => h) (Or.inl ⟨by rfl, ?_⟩) ?_; rotate_left; (focus (intro _; (go_simp); (try (with_reducible rfl)))); (try dsimp only [Act.put, List.setIfInBounds_toArray, List.set_cons_succ, List.set_cons_zero])); (refine wpAny_take (i := 8) (v := ?_) rfl (by kernel_rfl) (by kernel_rfl) (by kernel_rfl) (fun _ _ _ h => h) (Or.inl ⟨by rfl, ?_⟩) ?_; rotate_left; (focus (intro _; (go_simp); (try (with_reducible rfl)))); (try dsimp only [Act.put, List.setIfInBounds_toArray, List.set_cons_succ, List.set_cons_zero])); (refine wpAny_take (i := 10) (v := ?_) rfl (by kernel_rfl) (by kernel_rfl) (by kernel_rfl) (fun _ _ _ h => h) (Or.inl ⟨by rfl, ?_⟩) ?_; rotate_left; (focus (intro _; (go_simp); (try (with_reducible rfl)))); (try dsimp only [Act.put, List.setIfInBounds_toArray, List.set_cons_succ, List.set_cons_zero])); refine wpAny_ready (rs := [2,9]) (by kernel_rfl) (by simp) ?_; refine AllReady.cons rfl (fun K hK => ?_) ?_; (focus ((go_simp); (first | (refine hK _ _ ?_; clear hK K) | (go_wp2_with (fail); first | (show wpAny _ _ _ _ _ _ _ _; skip) | (refine hK _ _ ?_); (try clear hK K))); (refine wpAny_take (i := 4) (v := ?_) rfl (by kernel_rfl) (by kernel_rfl) (by kernel_rfl) (fun _ _ _ h => h) (Or.inl ⟨by rfl, ?_⟩) ?_; rotate_left; (focus (intro _; (go_simp); (try (with_reducible rfl)))); (try dsimp only [Act.put, List.setIfInBounds_toArray, List.set_cons_succ, List.set_cons_zero])); (refine wpAny_take (i := 5) (v := ?_) rfl (by kernel_rfl) (by kernel_rfl) (by kernel_rfl) (fun _ _ _ h => h) (Or.inl ⟨by rfl, ?_⟩) ?_; rotate_left; (focus (intro _; (go_simp); (try (with_reducible rfl)))); (try dsimp only [Act.put, List.setIfInBounds_toArray, List.set_cons_succ, List.set_cons_zero])); refine wpAny_ready (rs := [6,9]) (by kernel_rfl) (by simp) ?_; refine AllReady.cons rfl (fun K hK => ?_) ?_; (focus ((go_simp); (first | (refine hK _ _ ?_; clear hK K) | (go_wp2_with (fail); first | (show wpAny _ _ _ _ _ _ _ _; skip) | (refine hK _ _ ?_); (try clear hK K))); (refine wpAny_take (i := 7) (v := ?_) rfl (by kernel_rfl) (by kernel_rfl) (by kernel_rfl) (fun _ _ _ h => h) (Or.inl ⟨by rfl, ?_⟩) ?_; rotate_left; (focus (intro _; (go_simp); (try (with_reducible rfl)))); (try dsimp only [Act.put, List.setIfInBounds_toArray, List.set_cons_succ, List.set_cons_zero])); refine wpAny_ready (rs := [9]) (by kernel_rfl) (by simp) ?_; refine AllReady.cons rfl (fun K hK => ?_) ?_; (focus ((go_simp); (first | (refine hK _ _ ?_; clear hK K) | (go_wp2_with (fail); first | (show wpAny _ _ _ _ _ _ _ _; skip) | (refine hK _ _ ?_); (try clear hK K))); (refine wpAny_take (i := 11) (v := ?_) rfl (by kernel_rfl) (by kernel_rfl) (by kernel_rfl) (fun _ _ _ h => h) (Or.inl ⟨by rfl, ?_⟩) ?_; rotate_left; (focus (intro _; (go_simp); (try (with_reducible rfl)))); (try dsimp only [Act.put, List.setIfInBounds_toArray, List.set_cons_succ, List.set_cons_zero])); (refine wpAny_take (i := 12) (v := ?_) rfl (by kernel_rfl) (by kernel_rfl) (by kernel_rfl) (fun _ _ _ h => h) (Or.inl ⟨by rfl, ?_⟩) ?_; rotate_left; (focus (intro _; (go_simp); (try (with_reducible rfl)))); (try dsimp only [Act.put, List.setIfInBounds_toArray, List.set_cons_succ, List.set_cons_zero])); refine wpAny_ready (rs := [13]) (by kernel_rfl) (by simp) ?_; refine AllReady.cons rfl (fun K hK => ?_) ?_; (focus ((go_simp); (first | (refine hK _ _ ?_; clear hK K) | (go_wp2_with (fail); first | (show wpAny _ _ _ _ _ _ _ _; skip) | (refine hK _ _ ?_); (try clear hK K))); (refine wpAny_take (i := 14) (v := ?_) rfl (by kernel_rfl) (by kernel_rfl) (by kernel_rfl) (fun _ _ _ h => h) (Or.inl ⟨by rfl, ?_⟩) ?_; rotate_left; (focus (intro _; (go_simp); (try (with_reducible rfl)))); (try dsimp only [Act.put, List.setIfInBounds_toArray, List.set_cons_succ, List.set_cons_zero])); refine wpAny_ready (rs := [15]) (by kernel_rfl) (by simp) ?_; refine AllReady.cons rfl (fun K hK => ?_) ?_; (focus ((go_simp); (first | (refine hK _ _ ?_; clear hK K) | (go_wp2_with (fail); first | (show wpAny _ _ _ _ _ _ _ _; skip) | (refine hK _ _ ?_); (try clear hK K))); refine wpAny_ready (rs := [16]) (by kernel_rfl) (by simp) ?_; refine AllReady.cons rfl (fun K hK => ?_) ?_; (focus ((refine wp_append_at _ _ 22 rfl lo 5 i0 _ 1 1 Try.underlying22 HI.out HZ0.out HZ1.out HZ2.out rfl (by decide) _ _ _ rfl HRA.out ⟨wr.heap.size, 0, none⟩ 2 2 [.int .u8 (IntKind.u8.wrap xo), .int .u8 (IntKind.u8.wrap xk)] rfl rfl hca (by simp [Value.oneCell']) (by unfold maxLen; omega) (by omega) (by simp; omega) ?_; intro v' w7 hown' hgrow _; have hne := own_type_ne HRA.out hfa (by decide); have hf7 := hfa.grown hgrow hne; have hB7 : Below w.heap.size w w7 := hBa.grown hgrow (by simp; omega) (fun k hk => by have := (HRA.out.lt k hk).1; omega); have hlo7 : lo ≤ w7.heap.size := (by have := hgrow.size; simp at this; omega); obtain ⟨base7, cap7, rfl⟩ := owns_slice hown'; rw [← HBV.out] at hown'; have HO7 := Lib.hid hown'; obtain ⟨_, _, he9, hBn7, c0, c1, c2⟩ := nts_get k hlt HL.out hB7 (Nat.le_refl _); simp only [Option.some.injEq, Addr.mk.injEq] at he9; obtain ⟨rfl, rfl, -⟩ := he9; rw [HX.out] at c0 c1 c2; dsimp only at c0 c1 c2; have hf7_l := hf7.lt; have hf7_c := hf7.cell; clear hown' hgrow hne); (refine hK _ _ ?_; clear hK K); (refine wpAny_take (i := 17) (v := ?_) rfl (by kernel_rfl) (by kernel_rfl) (by kernel_rfl) (fun _ _ _ h => h) (Or.inl ⟨by rfl, ?_⟩) ?_; rotate_left; (focus (intro _; (go_simp); (try (with_reducible rfl)))); (try dsimp only [Act.put, List.setIfInBounds_toArray, List.set_cons_succ, List.set_cons_zero])); refine wpAny_done (by kernel_rfl) ?_ _; (try dsimp only [Act.put, List.setIfInBounds_toArray, List.set_cons_succ, List.set_cons_zero]); go_wp2_with (go_at_call 40; (with_reducible refine Calls.mono (RNum_r (q := w.heap.size) (w0 := w) (m := fl.length + k * 5 + 2) (r := fl.length + (k + 1) * 5) (l := lk ++ [xo, xk]) 3 rfl HM2.out (by omega) HNX.out v3 (by omega) (by omega) HO7.out hlo7 (by omega) hB7) ?_); rintro e w8 ⟨b8, c8, rfl, hown8, hk8, hB8, hlo8⟩; have HR8 := Lib.hid hown8; have HF8 := Lib.hid (hf7.keep hk8 (fun h => by have := h.1; omega)); clear hown8 hk8); go_roundw; (case rel => exact ⟨k + 1, b8, c8, hlt, by go_num, rfl, HR8, hlo8, hB8, HF8⟩); (case measure => simp [intOf]; omega))); exact AllReady.nil)); exact AllReady.nil)); exact AllReady.nil)); exact AllReady.nil)); refine AllReady.cons rfl (fun K hK => ?_) ?_; (focus ((go_simp); (first | (refine hK _ _ ?_; clear hK K) | (go_wp2_with (fail); first | (show wpAny _ _ _ _ _ _ _ _; skip) | (refine hK _ _ ?_); (try clear hK K))); (refine wpAny_take (i := 11) (v := ?_) rfl (by kernel_rfl) (by kernel_rfl) (by kernel_rfl) (fun _ _ _ h => h) (Or.inl ⟨by rfl, ?_⟩) ?_; rotate_left; (focus (intro _; (go_simp); (try (with_reducible rfl)))); (try dsimp only [Act.put, List.setIfInBounds_toArray, List.set_cons_succ, List.set_cons_zero])); (refine wpAny_take (i := 12) (v := ?_) rfl (by kernel_rfl) (by kernel_rfl) (by kernel_rfl) (fun _ _ _ h => h) (Or.inl ⟨by rfl, ?_⟩) ?_; rotate_left; (focus (intro _; (go_simp); (try (with_reducible rfl)))); (try dsimp only [Act.put, List.setIfInBounds_toArray, List.set_cons_succ, List.set_cons_zero])); refine wpAny_ready (rs := [6,13]) (by kernel_rfl) (by simp) ?_; refine AllReady.cons rfl (fun K hK => ?_) ?_; (focus ((go_simp); (first | (refine hK _ _ ?_; clear hK K) | (go_wp2_with (fail); first | (show wpAny _ _ _ _ _ _ _ _; skip) | (refine hK _ _ ?_); (try clear hK K))); (refine wpAny_take (i := 7) (v := ?_) rfl (by kernel_rfl) (by kernel_rfl) (by kernel_rfl) (fun _ _ _ h => h) (Or.inl ⟨by rfl, ?_⟩) ?_; rotate_left; (focus (intro _; (go_simp); (try (with_reducible rfl)))); (try dsimp only [Act.put, List.setIfInBounds_toArray, List.set_cons_succ, List.set_cons_zero])); refine wpAny_ready (rs := [13]) (by kernel_rfl) (by simp) ?_; refine AllReady.cons rfl (fun K hK => ?_) ?_; (focus ((go_simp); (first | (refine hK _ _ ?_; clear hK K) | (go_wp2_with (fail); first | (show wpAny _ _ _ _ _ _ _ _; skip) | (refine hK _ _ ?_); (try clear hK K))); (refine wpAny_take (i := 14) (v := ?_) rfl (by kernel_rfl) (by kernel_rfl) (by kernel_rfl) (fun _ _ _ h => h) (Or.inl ⟨by rfl, ?_⟩) ?_; rotate_left; (focus (intro _; (go_simp); (try (with_reducible rfl)))); (try dsimp only [Act.put, List.setIfInBounds_toArray, List.set_cons_succ, List.set_cons_zero])); refine wpAny_ready (rs := [15]) (by kernel_rfl) (by simp) ?_; refine AllReady.cons rfl (fun K hK => ?_) ?_; (focus ((go_simp); (first | (refine hK _ _ ?_; clear hK K) | (go_wp2_with (fail); first | (show wpAny _ _ _ _ _ _ _ _; skip) | (refine hK _ _ ?_); (try clear hK K))); refine wpAny_ready (rs := [16]) (by kernel_rfl) (by simp) ?_; refine AllReady.cons rfl (fun K hK => ?_) ?_; (focus ((refine wp_append_at _ _ 22 rfl lo 5 i0 _ 1 1 Try.underlying22 HI.out HZ0.out HZ1.out HZ2.out rfl (by decide) _ _ _ rfl HRA.out ⟨wr.heap.size, 0, none⟩ 2 2 [.int .u8 (IntKind.u8.wrap xo), .int .u8 (IntKind.u8.wrap xk)] rfl rfl hca (by simp [Value.oneCell']) (by unfold maxLen; omega) (by omega) (by simp; omega) ?_; intro v' w7 hown' hgrow _; have hne := own_type_ne HRA.out hfa (by decide); have hf7 := hfa.grown hgrow hne; have hB7 : Below w.heap.size w w7 := hBa.grown hgrow (by simp; omega) (fun k hk => by have := (HRA.out.lt k hk).1; omega); have hlo7 : lo ≤ w7.heap.size := (by have := hgrow.size; simp at this; omega); obtain ⟨base7, cap7, rfl⟩ := owns_slice hown'; rw [← HBV.out] at hown'; have HO7 := Lib.hid hown'; obtain ⟨_, _, he9, hBn7, c0, c1, c2⟩ := nts_get k hlt HL.out hB7 (Nat.le_refl _); simp only [Option.some.injEq, Addr.mk.injEq] at he9; obtain ⟨rfl, rfl, -⟩ := he9; rw [HX.out] at c0 c1 c2; dsimp only at c0 c1 c2; have hf7_l := hf7.lt; have hf7_c := hf7.cell; clear hown' hgrow hne); (refine hK _ _ ?_; clear hK K); (refine wpAny_take (i := 17) (v := ?_) rfl (by kernel_rfl) (by kernel_rfl) (by kernel_rfl) (fun _ _ _ h => h) (Or.inl ⟨by rfl, ?_⟩) ?_; rotate_left; (focus (intro _; (go_simp); (try (with_reducible rfl)))); (try dsimp only [Act.put, List.setIfInBounds_toArray, List.set_cons_succ, List.set_cons_zero])); refine wpAny_done (by kernel_rfl) ?_ _; (try dsimp only [Act.put, List.setIfInBounds_toArray, List.set_cons_succ, List.set_cons_zero]); go_wp2_with (go_at_call 40; (with_reducible refine Calls.mono (RNum_r (q := w.heap.size) (w0 := w) (m := fl.length + k * 5 + 2) (r := fl.length + (k + 1) * 5) (l := lk ++ [xo, xk]) 3 rfl HM2.out (by omega) HNX.out v3 (by omega) (by omega) HO7.out hlo7 (by omega) hB7) ?_); rintro e w8 ⟨b8, c8, rfl, hown8, hk8, hB8, hlo8⟩; have HR8 := Lib.hid hown8; have HF8 := Lib.hid (hf7.keep hk8 (fun h => by have := h.1; omega)); clear hown8 hk8); go_roundw; (case rel => exact ⟨k + 1, b8, c8, hlt, by go_num, rfl, HR8, hlo8, hB8, HF8⟩); (case measure => simp [intOf]; omega))); exact AllReady.nil)); exact AllReady.nil)); exact AllReady.nil)); refine AllReady.cons rfl (fun K hK => ?_) ?_; (focus ((go_simp); (first | (refine hK _ _ ?_; clear hK K) | (go_wp2_with (fail); first | (show wpAny _ _ _ _ _ _ _ _; skip) | (refine hK _ _ ?_); (try clear hK K))); (refine wpAny_take (i := 14) (v := ?_) rfl (by kernel_rfl) (by kernel_rfl) (by kernel_rfl) (fun _ _ _ h => h) (Or.inl ⟨by rfl, ?_⟩) ?_; rotate_left; (focus (intro _; (go_simp); (try (with_reducible rfl)))); (try dsimp only [Act.put, List.setIfInBounds_toArray, List.set_cons_succ, List.set_cons_zero])); refine wpAny_ready (rs := [6]) (by kernel_rfl) (by simp) ?_; refine AllReady.cons rfl (fun K hK => ?_) ?_; (focus ((go_simp); (first | (refine hK _ _ ?_; clear hK K) | (go_wp2_with (fail); first | (show wpAny _ _ _ _ _ _ _ _; skip) | (refine hK _ _ ?_); (try clear hK K))); (refine wpAny_take (i := 7) (v := ?_) rfl (by kernel_rfl) (by kernel_rfl) (by kernel_rfl) (fun _ _ _ h => h) (Or.inl ⟨by rfl, ?_⟩) ?_; rotate_left; (focus (intro _; (go_simp); (try (with_reducible rfl)))); (try dsimp only [Act.put, List.setIfInBounds_toArray, List.set_cons_succ, List.set_cons_zero])); refine wpAny_ready (rs := [15]) (by kernel_rfl) (by simp) ?_; refine AllReady.cons rfl (fun K hK => ?_) ?_; (focus ((go_simp); (first | (refine hK _ _ ?_; clear hK K) | (go_wp2_with (fail); first | (show wpAny _ _ _ _ _ _ _ _; skip) | (refine hK _ _ ?_); (try clear hK K))); refine wpAny_ready (rs := [16]) (by kernel_rfl) (by simp) ?_; refine AllReady.cons rfl (fun K hK => ?_) ?_; (focus ((refine wp_append_at _ _ 22 rfl lo 5 i0 _ 1 1 Try.underlying22 HI.out HZ0.out HZ1.out HZ2.out rfl (by decide) _ _ _ rfl HRA.out ⟨wr.heap.size, 0, none⟩ 2 2 [.int .u8 (IntKind.u8.wrap xo), .int .u8 (IntKind.u8.wrap xk)] rfl rfl hca (by simp [Value.oneCell']) (by unfold maxLen; omega) (by omega) (by simp; omega) ?_; intro v' w7 hown' hgrow _; have hne := own_type_ne HRA.out hfa (by decide); have hf7 := hfa.grown hgrow hne; have hB7 : Below w.heap.size w w7 := hBa.grown hgrow (by simp; omega) (fun k hk => by have := (HRA.out.lt k hk).1; omega); have hlo7 : lo ≤ w7.heap.size := (by have := hgrow.size; simp at this; omega); obtain ⟨base7, cap7, rfl⟩ := owns_slice hown'; rw [← HBV.out] at hown'; have HO7 := Lib.hid hown'; obtain ⟨_, _, he9, hBn7, c0, c1, c2⟩ := nts_get k hlt HL.out hB7 (Nat.le_refl _); simp only [Option.some.injEq, Addr.mk.injEq] at he9; obtain ⟨rfl, rfl, -⟩ := he9; rw [HX.out] at c0 c1 c2; dsimp only at c0 c1 c2; have hf7_l := hf7.lt; have hf7_c := hf7.cell; clear hown' hgrow hne); (refine hK _ _ ?_; clear hK K); (refine wpAny_take (i := 17) (v := ?_) rfl (by kernel_rfl) (by kernel_rfl) (by kernel_rfl) (fun _ _ _ h => h) (Or.inl ⟨by rfl, ?_⟩) ?_; rotate_left; (focus (intro _; (go_simp); (try (with_reducible rfl)))); (try dsimp only [Act.put, List.setIfInBounds_toArray, List.set_cons_succ, List.set_cons_zero])); refine wpAny_done (by kernel_rfl) ?_ _; (try dsimp only [Act.put, List.setIfInBounds_toArray, List.set_cons_succ, List.set_cons_zero]); go_wp2_with (go_at_call 40; (with_reducible refine Calls.mono (RNum_r (q := w.heap.size) (w0 := w) (m := fl.length + k * 5 + 2) (r := fl.length + (k + 1) * 5) (l := lk ++ [xo, xk]) 3 rfl HM2.out (by omega) HNX.out v3 (by omega) (by omega) HO7.out hlo7 (by omega) hB7) ?_); rintro e w8 ⟨b8, c8, rfl, hown8, hk8, hB8, hlo8⟩; have HR8 := Lib.hid hown8; have HF8 := Lib.hid (hf7.keep hk8 (fun h => by have := h.1; omega)); clear hown8 hk8); go_roundw; (case rel => exact ⟨k + 1, b8, c8, hlt, by go_num, rfl, HR8, hlo8, hB8, HF8⟩); (case measure => simp [intOf]; omega))); exact AllReady.nil)); exact AllReady.nil)); exact AllReady.nil)); exact AllReady.nil)); exact AllReady.nil)); refine AllReady.cons rfl (fun K hK => ?_) ?_; (focus ((go_simp); (first | (refine hK _ _ ?_; clear hK K) | (go_wp2_with (fail); first | (show wpAny _ _ _ _ _ _ _ _; skip) | (refine hK _ _ ?_); (try clear hK K))); (refine wpAny_take (i := 11) (v := ?_) rfl (by kernel_rfl) (by kernel_rfl) (by kernel_rfl) (fun _ _ _ h => h) (Or.inl ⟨by rfl, ?_⟩) ?_; rotate_left; (focus (intro _; (go_simp); (try (with_reducible rfl)))); (try dsimp only [Act.put, List.setIfInBounds_toArray, List.set_cons_succ, List.set_cons_zero])); (refine wpAny_take (i := 12) (v := ?_) rfl (by kernel_rfl) (by kernel_rfl) (by kernel_rfl) (fun _ _ _ h => h) (Or.inl ⟨by rfl, ?_⟩) ?_; rotate_left; (focus (intro _; (go_simp); (try (with_reducible rfl)))); (try dsimp only [Act.put, List.setIfInBounds_toArray, List.set_cons_succ, List.set_cons_zero])); refine wpAny_ready (rs := [2,13]) (by kernel_rfl) (by simp) ?_; refine AllReady.cons rfl (fun K hK => ?_) ?_; (focus ((go_simp); (first | (refine hK _ _ ?_; clear hK K) | (go_wp2_with (fail); first | (show wpAny _ _ _ _ _ _ _ _; skip) | (refine hK _ _ ?_); (try clear hK K))); (refine wpAny_take (i := 4) (v := ?_) rfl (by kernel_rfl) (by kernel_rfl) (by kernel_rfl) (fun _ _ _ h => h) (Or.inl ⟨by rfl, ?_⟩) ?_; rotate_left; (focus (intro _; (go_simp); (try (with_reducible rfl)))); (try dsimp only [Act.put, List.setIfInBounds_toArray, List.set_cons_succ, List.set_cons_zero])); (refine wpAny_take (i := 5) (v := ?_) rfl (by kernel_rfl) (by kernel_rfl) (by kernel_rfl) (fun _ _ _ h => h) (Or.inl ⟨by rfl, ?_⟩) ?_; rotate_left; (focus (intro _; (go_simp); (try (with_reducible rfl)))); (try dsimp only [Act.put, List.setIfInBounds_toArray, List.set_cons_succ, List.set_cons_zero])); refine wpAny_ready (rs := [6,13]) (by kernel_rfl) (by simp) ?_; refine AllReady.cons rfl (fun K hK => ?_) ?_; (focus ((go_simp); (first | (refine hK _ _ ?_; clear hK K) | (go_wp2_with (fail); first | (show wpAny _ _ _ _ _ _ _ _; skip) | (refine hK _ _ ?_); (try clear hK K))); (refine wpAny_take (i := 7) (v := ?_) rfl (by kernel_rfl) (by kernel_rfl) (by kernel_rfl) (fun _ _ _ h => h) (Or.inl ⟨by rfl, ?_⟩) ?_; rotate_left; (focus (intro _; (go_simp); (try (with_reducible rfl)))); (try dsimp only [Act.put, List.setIfInBounds_toArray, List.set_cons_succ, List.set_cons_zero])); refine wpAny_ready (rs := [13]) (by kernel_rfl) (by simp) ?_; refine AllReady.cons rfl (fun K hK => ?_) ?_; (focus ((go_simp); (first | (refine hK _ _ ?_; clear hK K) | (go_wp2_with (fail); first | (show wpAny _ _ _ _ _ _ _ _; skip) | (refine hK _ _ ?_); (try clear hK K))); (refine wpAny_take (i := 14) (v := ?_) rfl (by kernel_rfl) (by kernel_rfl) (by kernel_rfl) (fun _ _ _ h => h) (Or.inl ⟨by rfl, ?_⟩) ?_; rotate_left; (focus (intro _; (go_simp); (try (with_reducible rfl)))); (try dsimp only [Act.put, List.setIfInBounds_toArray, List.set_cons_succ, List.set_cons_zero])); refine wpAny_ready (rs := [15]) (by kernel_rfl) (by simp) ?_; refine AllReady.cons rfl (fun K hK => ?_) ?_; (focus ((go_simp); (first | (refine hK _ _ ?_; clear hK K) | (go_wp2_with (fail); first | (show wpAny _ _ _ _ _ _ _ _; skip) | (refine hK _ _ ?_); (try clear hK K))); refine wpAny_ready (rs := [16]) (by kernel_rfl) (by simp) ?_; refine AllReady.cons rfl (fun K hK => ?_) ?_; (focus ((refine wp_append_at _ _ 22 rfl lo 5 i0 _ 1 1 Try.underlying22 HI.out HZ0.out HZ1.out HZ2.out rfl (by decide) _ _ _ rfl HRA.out ⟨wr.heap.size, 0, none⟩ 2 2 [.int .u8 (IntKind.u8.wrap xo), .int .u8 (IntKind.u8.wrap xk)] rfl rfl hca (by simp [Value.oneCell']) (by unfold maxLen; omega) (by omega) (by simp; omega) ?_; intro v' w7 hown' hgrow _; have hne := own_type_ne HRA.out hfa (by decide); have hf7 := hfa.grown hgrow hne; have hB7 : Below w.heap.size w w7 := hBa.grown hgrow (by simp; omega) (fun k hk => by have := (HRA.out.lt k hk).1; omega); have hlo7 : lo ≤ w7.heap.size := (by have := hgrow.size; simp at this; omega); obtain ⟨base7, cap7, rfl⟩ := owns_slice hown'; rw [← HBV.out] at hown'; have HO7 := Lib.hid hown'; obtain ⟨_, _, he9, hBn7, c0, c1, c2⟩ := nts_get k hlt HL.out hB7 (Nat.le_refl _); simp only [Option.some.injEq, Addr.mk.injEq] at he9; obtain ⟨rfl, rfl, -⟩ := he9; rw [HX.out] at c0 c1 c2; dsimp only at c0 c1 c2; have hf7_l := hf7.lt; have hf7_c := hf7.cell; clear hown' hgrow hne); (refine hK _ _ ?_; clear hK K); (refine wpAny_take (i := 17) (v := ?_) rfl (by kernel_rfl) (by kernel_rfl) (by kernel_rfl) (fun _ _ _ h => h) (Or.inl ⟨by rfl, ?_⟩) ?_; rotate_left; (focus (intro _; (go_simp); (try (with_reducible rfl)))); (try dsimp only [Act.put, List.setIfInBounds_toArray, List.set_cons_succ, List.set_cons_zero])); refine wpAny_done (by kernel_rfl) ?_ _; (try dsimp only [Act.put, List.setIfInBounds_toArray, List.set_cons_succ, List.set_cons_zero]); go_wp2_with (go_at_call 40; (with_reducible refine Calls.mono (RNum_r (q := w.heap.size) (w0 := w) (m := fl.length + k * 5 + 2) (r := fl.length + (k + 1) * 5) (l := lk ++ [xo, xk]) 3 rfl HM2.out (by omega) HNX.out v3 (by omega) (by omega) HO7.out hlo7 (by omega) hB7) ?_); rintro e w8 ⟨b8, c8, rfl, hown8, hk8, hB8, hlo8⟩; have HR8 := Lib.hid hown8; have HF8 := Lib.hid (hf7.keep hk8 (fun h => by have := h.1; omega)); clear hown8 hk8); go_roundw; (case rel => exact ⟨k + 1, b8, c8, hlt, by go_num, rfl, HR8, hlo8, hB8, HF8⟩); (case measure => simp [intOf]; omega))); exact AllReady.nil)); exact AllReady.nil)); exact AllReady.nil)); refine AllReady.cons rfl (fun K hK => ?_) ?_; (focus ((go_simp); (first | (refine hK _ _ ?_; clear hK K) | (go_wp2_with (fail); first | (show wpAny _ _ _ _ _ _ _ _; skip) | (refine hK _ _ ?_); (try clear hK K))); (refine wpAny_take (i := 14) (v := ?_) rfl (by kernel_rfl) (by kernel_rfl) (by kernel_rfl) (fun _ _ _ h => h) (Or.inl ⟨by rfl, ?_⟩) ?_; rotate_left; (focus (intro _; (go_simp); (try (with_reducible rfl)))); (try dsimp only [Act.put, List.setIfInBounds_toArray, List.set_cons_succ, List.set_cons_zero])); refine wpAny_ready (rs := [6]) (by kernel_rfl) (by simp) ?_; refine AllReady.cons rfl (fun K hK => ?_) ?_; (focus ((go_simp); (first | (refine hK _ _ ?_; clear hK K) | (go_wp2_with (fail); first | (show wpAny _ _ _ _ _ _ _ _; skip) | (refine hK _ _ ?_); (try clear hK K))); (refine wpAny_take (i := 7) (v := ?_) rfl (by kernel_rfl) (by kernel_rfl) (by kernel_rfl) (fun _ _ _ h => h) (Or.inl ⟨by rfl, ?_⟩) ?_; rotate_left; (focus (intro _; (go_simp); (try (with_reducible rfl)))); (try dsimp only [Act.put, List.setIfInBounds_toArray, List.set_cons_succ, List.set_cons_zero])); refine wpAny_ready (rs := [15]) (by kernel_rfl) (by simp) ?_; refine AllReady.cons rfl (fun K hK => ?_) ?_; (focus ((go_simp); (first | (refine hK _ _ ?_; clear hK K) | (go_wp2_with (fail); first | (show wpAny _ _ _ _ _ _ _ _; skip) | (refine hK _ _ ?_); (try clear hK K))); refine wpAny_ready (rs := [16]) (by kernel_rfl) (by simp) ?_; refine AllReady.cons rfl (fun K hK => ?_) ?_; (focus ((refine wp_append_at _ _ 22 rfl lo 5 i0 _ 1 1 Try.underlying22 HI.out HZ0.out HZ1.out HZ2.out rfl (by decide) _ _ _ rfl HRA.out ⟨wr.heap.size, 0, none⟩ 2 2 [.int .u8 (IntKind.u8.wrap xo), .int .u8 (IntKind.u8.wrap xk)] rfl rfl hca (by simp [Value.oneCell']) (by unfold maxLen; omega) (by omega) (by simp; omega) ?_; intro v' w7 hown' hgrow _; have hne := own_type_ne HRA.out hfa (by decide); have hf7 := hfa.grown hgrow hne; have hB7 : Below w.heap.size w w7 := hBa.grown hgrow (by simp; omega) (fun k hk => by have := (HRA.out.lt k hk).1; omega); have hlo7 : lo ≤ w7.heap.size := (by have := hgrow.size; simp at this; omega); obtain ⟨base7, cap7, rfl⟩ := owns_slice hown'; rw [← HBV.out] at hown'; have HO7 := Lib.hid hown'; obtain ⟨_, _, he9, hBn7, c0, c1, c2⟩ := nts_get k hlt HL.out hB7 (Nat.le_refl _); simp only [Option.some.injEq, Addr.mk.injEq] at he9; obtain ⟨rfl, rfl, -⟩ := he9; rw [HX.out] at c0 c1 c2; dsimp only at c0 c1 c2; have hf7_l := hf7.lt; have hf7_c := hf7.cell; clear hown' hgrow hne); (refine hK _ _ ?_; clear hK K); (refine wpAny_take (i := 17) (v := ?_) rfl (by kernel_rfl) (by kernel_rfl) (by kernel_rfl) (fun _ _ _ h => h) (Or.inl ⟨by rfl, ?_⟩) ?_; rotate_left; (focus (intro _; (go_simp); (try (with_reducible rfl)))); (try dsimp only [Act.put, List.setIfInBounds_toArray, List.set_cons_succ, List.set_cons_zero])); refine wpAny_done (by kernel_rfl) ?_ _; (try dsimp only [Act.put, List.setIfInBounds_toArray, List.set_cons_succ, List.set_cons_zero]); go_wp2_with (go_at_call 40; (with_reducible refine Calls.mono (RNum_r (q := w.heap.size) (w0 := w) (m := fl.length + k * 5 + 2) (r := fl.length + (k + 1) * 5) (l := lk ++ [xo, xk]) 3 rfl HM2.out (by omega) HNX.out v3 (by omega) (by omega) HO7.out hlo7 (by omega) hB7) ?_); rintro e w8 ⟨b8, c8, rfl, hown8, hk8, hB8, hlo8⟩; have HR8 := Lib.hid hown8; have HF8 := Lib.hid (hf7.keep hk8 (fun h => by have := h.1; omega)); clear hown8 hk8); go_roundw; (case rel => exact ⟨k + 1, b8, c8, hlt, by go_num, rfl, HR8, hlo8, hB8, HF8⟩); (case measure => simp [intOf]; omega))); exact AllReady.nil)); exact AllReady.nil)); exact AllReady.nil)); exact AllReady.nil)); refine AllReady.cons rfl (fun K hK => ?_) ?_; (focus ((go_simp); (first | (refine hK _ _ ?_; clear hK K) | (go_wp2_with (fail); first | (show wpAny _ _ _ _ _ _ _ _; skip) | (refine hK _ _ ?_); (try clear hK K))); (refine wpAny_take (i := 14) (v := ?_) rfl (by kernel_rfl) (by kernel_rfl) (by kernel_rfl) (fun _ _ _ h => h) (Or.inl ⟨by rfl, ?_⟩) ?_; rotate_left; (focus (intro _; (go_simp); (try (with_reducible rfl)))); (try dsimp only [Act.put, List.setIfInBounds_toArray, List.set_cons_succ, List.set_cons_zero])); refine wpAny_ready (rs := [2]) (by kernel_rfl) (by simp) ?_; refine AllReady.cons rfl (fun K hK => ?_) ?_; (focus ((go_simp); (first | (refine hK _ _ ?_; clear hK K) | (go_wp2_with (fail); first | (show wpAny _ _ _ _ _ _ _ _; skip) | (refine hK _ _ ?_); (try clear hK K))); (refine wpAny_take (i := 4) (v := ?_) rfl (by kernel_rfl) (by kernel_rfl) (by kernel_rfl) (fun _ _ _ h => h) (Or.inl ⟨by rfl, ?_⟩) ?_; rotate_left; (focus (intro _; (go_simp); (try (with_reducible rfl)))); (try dsimp only [Act.put, List.setIfInBounds_toArray, List.set_cons_succ, List.set_cons_zero])); (refine wpAny_take (i := 5) (v := ?_) rfl (by kernel_rfl) (by kernel_rfl) (by kernel_rfl) (fun _ _ _ h => h) (Or.inl ⟨by rfl, ?_⟩) ?_; rotate_left; (focus (intro _; (go_simp); (try (with_reducible rfl)))); (try dsimp only [Act.put, List.setIfInBounds_toArray, List.set_cons_succ, List.set_cons_zero])); refine wpAny_ready (rs := [6]) (by kernel_rfl) (by simp) ?_; refine AllReady.cons rfl (fun K hK => ?_) ?_; (focus ((go_simp); (first | (refine hK _ _ ?_; clear hK K) | (go_wp2_with (fail); first | (show wpAny _ _ _ _ _ _ _ _; skip) | (refine hK _ _ ?_); (try clear hK K))); (refine wpAny_take (i := 7) (v := ?_) rfl (by kernel_rfl) (by kernel_rfl) (by kernel_rfl) (fun _ _ _ h => h) (Or.inl ⟨by rfl, ?_⟩) ?_; rotate_left; (focus (intro _; (go_simp); (try (with_reducible rfl)))); (try dsimp only [Act.put, List.setIfInBounds_toArray, List.set_cons_succ, List.set_cons_zero])); refine wpAny_ready (rs := [15]) (by kernel_rfl) (by simp) ?_; refine AllReady.cons rfl (fun K hK => ?_) ?_; (focus ((go_simp); (first | (refine hK _ _ ?_; clear hK K) | (go_wp2_with (fail); first | (show wpAny _ _ _ _ _ _ _ _; skip) | (refine hK _ _ ?_); (try clear hK K))); refine wpAny_ready (rs := [16]) (by kernel_rfl) (by simp) ?_; refine AllReady.cons rfl (fun K hK => ?_) ?_; (focus ((refine wp_append_at _ _ 22 rfl lo 5 i0 _ 1 1 Try.underlying22 HI.out HZ0.out HZ1.out HZ2.out rfl (by decide) _ _ _ rfl HRA.out ⟨wr.heap.size, 0, none⟩ 2 2 [.int .u8 (IntKind.u8.wrap xo), .int .u8 (IntKind.u8.wrap xk)] rfl rfl hca (by simp [Value.oneCell']) (by unfold maxLen; omega) (by omega) (by simp; omega) ?_; intro v' w7 hown' hgrow _; have hne := own_type_ne HRA.out hfa (by decide); have hf7 := hfa.grown hgrow hne; have hB7 : Below w.heap.size w w7 := hBa.grown hgrow (by simp; omega) (fun k hk => by have := (HRA.out.lt k hk).1; omega); have hlo7 : lo ≤ w7.heap.size := (by have := hgrow.size; simp at this; omega); obtain ⟨base7, cap7, rfl⟩ := owns_slice hown'; rw [← HBV.out] at hown'; have HO7 := Lib.hid hown'; obtain ⟨_, _, he9, hBn7, c0, c1, c2⟩ := nts_get k hlt HL.out hB7 (Nat.le_refl _); simp only [Option.some.injEq, Addr.mk.injEq] at he9; obtain ⟨rfl, rfl, -⟩ := he9; rw [HX.out] at c0 c1 c2; dsimp only at c0 c1 c2; have hf7_l := hf7.lt; have hf7_c := hf7.cell; clear hown' hgrow hne); (refine hK _ _ ?_; clear hK K); (refine wpAny_take (i := 17) (v := ?_) rfl (by kernel_rfl) (by kernel_rfl) (by kernel_rfl) (fun _ _ _ h => h) (Or.inl ⟨by rfl, ?_⟩) ?_; rotate_left; (focus (intro _; (go_simp); (try (with_reducible rfl)))); (try dsimp only [Act.put, List.setIfInBounds_toArray, List.set_cons_succ, List.set_cons_zero])); refine wpAny_done (by kernel_rfl) ?_ _; (try dsimp only [Act.put, List.setIfInBounds_toArray, List.set_cons_succ, List.set_cons_zero]); go_wp2_with (go_at_call 40; (with_reducible refine Calls.mono (RNum_r (q := w.heap.size) (w0 := w) (m := fl.length + k * 5 + 2) (r := fl.length + (k + 1) * 5) (l := lk ++ [xo, xk]) 3 rfl HM2.out (by omega) HNX.out v3 (by omega) (by omega) HO7.out hlo7 (by omega) hB7) ?_); rintro e w8 ⟨b8, c8, rfl, hown8, hk8, hB8, hlo8⟩; have HR8 := Lib.hid hown8; have HF8 := Lib.hid (hf7.keep hk8 (fun h => by have := h.1; omega)); clear hown8 hk8); go_roundw; (case rel => exact ⟨k + 1, b8, c8, hlt, by go_num, rfl, HR8, hlo8, hB8, HF8⟩); (case measure => simp [intOf]; omega))); exact AllReady.nil)); exact AllReady.nil)); exact AllReady.nil)); exact AllReady.nil)); exact AllReady.nil)); exact AllReady.nil
            · have hkl : k = L.length := by omega
              subst hkl
              have ht : List.take L.length L = L := List.take_length
              rw [ht, HBODY.out] at HO
              have HBL := Lib.hid (show (bodyL N kind from_ round heard L).length = fl.length + L.length * 5 by rw [← HBODY.out, List.length_append, newsL_len])
              obtain ⟨bo, hbo⟩ : ∃ bo, bodyL N kind from_ round heard L = bo := ⟨_, rfl⟩
              have HBY := Lib.hid (byteOk_bodyL (n := N) (kind := kind) (from_ := from_) (by omega) (by omega) (by omega) round heard L)
              have HEND := Lib.hid (show bo ++ putL (sumV bo) 4 4 = bytesOf N kind from_ round heard L by unfold bytesOf; rw [hbo])
              rw [hbo] at HO HBL HBY
              obtain ⟨sv, hsv⟩ : ∃ sv, sumV bo = sv := ⟨_, rfl⟩
              have hsvr := sumV_in bo
              rw [hsv] at HEND hsvr
              have HSV := Lib.hid hsv
              obtain ⟨by_, hby⟩ : ∃ by_, bytesOf N kind from_ round heard L = by_ := ⟨_, rfl⟩
              rw [hby] at HEND
              have HBYE := Lib.hid hby
              have HBYL := Lib.hid (show by_.length = fl.length + L.length * 5 + 4 by rw [← HEND.out, List.length_append, putL_len, HBL.out])
              clear ht hbo hsv hby
              go_wp2_with (first
                | (go_at_call 17; (with_reducible refine Calls.mono (RSum_m (m := fl.length + L.length * 5) HBL.out HSV.out HBY.out (by omega) (owns_liesV HO.out)) ?_); rintro e w6 ⟨rfl, hb6⟩; have HO6 := Lib.hid (owns_below HO.out hb6); have hlo6 := Nat.le_trans hlw hb6.size; have hB6 := hB.trans (hb6.mono hs); clear hb6 HO)
                | (go_at_call 40; (with_reducible refine Calls.mono (RNum_r (q := w.heap.size) (w0 := w) (m := fl.length + L.length * 5) (r := by_.length) (l := bo) 4 rfl HBL.out (by have := HBYL.out; omega) HEND.out hsvr (by omega) (by omega) HO6.out hlo6 (by omega) hB6) ?_); rintro e w7 ⟨b7, c7, rfl, hown7, hk7, hB7, hlo7⟩))
              go_ret2
              rw [HBYE.out]
              exact ⟨b7, c7, rfl, owns_base hown7 (by omega), hB7⟩
end Go.Proofs.Ytklfkfnckdeifaa
