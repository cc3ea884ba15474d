/-
  The document's number and Rising.
-/
import Derived.Test.YtklfkfnckdeifaaWireF
import Derived.Test.YtklfkfnckdeifaaNtRef
namespace Go.Proofs.Ytklfkfnckdeifaa
set_option linter.unusedSimpArgs false
set_option linter.unusedVariables false
open Go.RowKit
attribute [local irreducible] Ear.Pl.wpQ Ear.Pa.wpQ Ear.Fe.wpQ Ear.Fa.wpQ sumP sumV digit putL setL by8 orL Ear.wd Ear.one Ear.clean riseFrom validN withinW
set_option maxRecDepth 100000 in
set_option maxHeartbeats 8000000 in
theorem RRising_eq {n : Int} {L : List Nt} {r : Bool} (h : riseFrom n (-1) L = r) (base : Option Addr) (c : Nat) (w : World) (hn : L.length ≤ 5000) (hl : LiesV (ntsV L) base w) :
    Calls Try.prog 39 #[.int .i64 n, .slice base L.length c] w fun e w' => e = .returned (.bool r) ∧ Below w.heap.size w w' := by
  have HL := Lib.hid hl
  have HR := Lib.hid h
  clear hl h
  go_enter Try.func39, Try.ntmps39
  go_wp2
  go_loopw [5] (fun i wr => ∃ (k : Nat) (last : Int), k ≤ L.length ∧ i = .int .i64 k ∧ Hid (riseFrom n last (L.drop k) = r) ∧ Hid ((k = 0 ∧ last = -1) ∨ ∃ (j : Nat) (hj : j < L.length), k = j + 1 ∧ L[j].of_ = last) ∧ Below w.heap.size w wr) (fun i _ => L.length - (intOf i).toNat)
  case atStart => exact ⟨0, -1, by omega, rfl, by rw [List.drop_zero]; exact HR, .inl ⟨rfl, rfl⟩, Below.refl _ _⟩
  case round =>
    clear HR
    obtain ⟨k, last, hk, rfl, HR, HP, hB⟩ := hrel
    have hs := hB.size
    by_cases hlt : k < L.length
    · obtain ⟨B1, o1, rfl, hl1, a0, a1, a2⟩ := nts_get k hlt HL.out hB (Nat.le_refl _)
      have HW := Lib.hid (wrap_bk k L.length hlt hn)
      have hr := HR.out
      rw [List.drop_eq_getElem_cons hlt, rise_cons] at hr
      obtain ⟨x, hx⟩ : ∃ x, L[k] = x := ⟨_, rfl⟩
      rw [hx] at a0 a1 a2 hr
      have HX := Lib.hid hx
      obtain ⟨vb, hvb⟩ : ∃ vb, validN n x = vb := ⟨_, rfl⟩
      rw [hvb] at hr
      have HV := Lib.hid hvb
      have HR2 := Lib.hid hr
      clear hx hr HR
      cases vb with
      | false =>
        clear hvb
        go_wp2
        refine Ear.Pl.wp_region_qb 24 (by kernel_rfl) (by kernel_rfl) (fun C hC1 hC2 => ?_); simp only [List.take_succ_cons, List.take_zero, List.drop_succ_cons, List.drop_zero]
        (iterate 5 (refine Ear.Pl.wpQ_run (by rfl) ?_; apply Exists.intro; refine ⟨fun K Q hK w' hw' => ?_, ?_⟩; (focus (obtain ⟨hc', hf'⟩ := Ear.bcell (hC1.out w' hw'); simp only [Act.put, List.setIfInBounds_toArray, List.set_cons_succ, List.set_cons_zero] at hK; go_wp2; exact hw')); simp only [Act.put, List.setIfInBounds_toArray, List.set_cons_succ, List.set_cons_zero]))
        refine Ear.Pl.wpQ_run (by rfl) ?_; apply Exists.intro; refine ⟨fun K Q hK w' hw' => ?_, ?_⟩; (focus (simp only [Act.put, List.setIfInBounds_toArray, List.set_cons_succ, List.set_cons_zero] at hK; go_wp2_with (refine (RValid_eq HV.out _).mono ?_; rintro e w'' ⟨rfl, hb''⟩); exact hC2.out _ _ hw' hb'')); simp only [Act.put, List.setIfInBounds_toArray, List.set_cons_succ, List.set_cons_zero]
        (iterate 2 (refine Ear.Pl.wpQ_run (by rfl) ?_; apply Exists.intro; refine ⟨fun K Q hK w' hw' => ?_, ?_⟩; (focus (obtain ⟨hc', hf'⟩ := Ear.bcell (hC1.out w' hw'); simp only [Act.put, List.setIfInBounds_toArray, List.set_cons_succ, List.set_cons_zero] at hK; go_wp2; exact hw')); simp only [Act.put, List.setIfInBounds_toArray, List.set_cons_succ, List.set_cons_zero]))
        (iterate 16 (refine Ear.Pl.wpQ_skip (by rfl) ?_; simp only [Act.put, List.setIfInBounds_toArray, List.set_cons_succ, List.set_cons_zero]))
        refine Ear.Pl.wpQ_nil ?_
        intro w2 hb2
        clear hC1 hC2
        have hB' : Below w.heap.size w w2 := Below.trans (by (repeat' (first | (with_reducible exact Below.refl _ _) | (with_reducible assumption) | (show Below 0 _ _; with_reducible refine Below.mono (by assumption) (Nat.zero_le _)) | (with_reducible refine below_setRow ?_ ?_ _) | (with_reducible refine Below.alloc ?_ ?_ _) | (with_reducible refine Below.drew ?_) | (with_reducible refine Below.setCell ?_ ?_ _) | (with_reducible refine Below.frame ?_ _) | (with_reducible exact Nat.le_refl _) | omega | (simp only [World.size_alloc, World.size_setCell, World.size_drew, setRow_size]; omega) | (simp; omega) | (simp; done)))) (hb2.mono (by (try simp only [World.size_alloc, World.size_setCell, World.size_drew, setRow_size]); omega)); clear hb2; (try clear hB hs); have hB := hB'; clear hB'; have hs := hB.size
        go_wp2
        go_ret
        exact ⟨by rw [← HR2.out]; rfl, hB⟩
      | true =>
        rcases HP.out with ⟨rfl, rfl⟩ | ⟨j, hj, hkj, hjl⟩
        · have hx0 := (of_valid hvb).1
          simp only [Nat.zero_mul, Nat.add_zero] at a0 a1 a2
          have HR3 := Lib.hid (show riseFrom n x.of_ (L.drop (0 + 1)) = r from by rw [← HR2.out, decide_eq_true (by omega : (-1 : Int) < x.of_)]; rfl)
          clear hvb
          go_wp2
          refine Ear.Pl.wp_region_qb 24 (by kernel_rfl) (by kernel_rfl) (fun C hC1 hC2 => ?_); simp only [List.take_succ_cons, List.take_zero, List.drop_succ_cons, List.drop_zero]
          (iterate 5 (refine Ear.Pl.wpQ_run (by rfl) ?_; apply Exists.intro; refine ⟨fun K Q hK w' hw' => ?_, ?_⟩; (focus (obtain ⟨hc', hf'⟩ := Ear.bcell (hC1.out w' hw'); simp only [Act.put, List.setIfInBounds_toArray, List.set_cons_succ, List.set_cons_zero] at hK; go_wp2; exact hw')); simp only [Act.put, List.setIfInBounds_toArray, List.set_cons_succ, List.set_cons_zero]))
          refine Ear.Pl.wpQ_run (by rfl) ?_; apply Exists.intro; refine ⟨fun K Q hK w' hw' => ?_, ?_⟩; (focus (simp only [Act.put, List.setIfInBounds_toArray, List.set_cons_succ, List.set_cons_zero] at hK; go_wp2_with (refine (RValid_eq HV.out _).mono ?_; rintro e w'' ⟨rfl, hb''⟩); exact hC2.out _ _ hw' hb'')); simp only [Act.put, List.setIfInBounds_toArray, List.set_cons_succ, List.set_cons_zero]
          (iterate 5 (refine Ear.Pl.wpQ_run (by rfl) ?_; apply Exists.intro; refine ⟨fun K Q hK w' hw' => ?_, ?_⟩; (focus (obtain ⟨hc', hf'⟩ := Ear.bcell (hC1.out w' hw'); simp only [Act.put, List.setIfInBounds_toArray, List.set_cons_succ, List.set_cons_zero] at hK; go_wp2; exact hw')); simp only [Act.put, List.setIfInBounds_toArray, List.set_cons_succ, List.set_cons_zero]))
          (iterate 12 (refine Ear.Pl.wpQ_skip (by rfl) ?_; simp only [Act.put, List.setIfInBounds_toArray, List.set_cons_succ, List.set_cons_zero]))
          (iterate 1 (refine Ear.Pl.wpQ_run (by rfl) ?_; apply Exists.intro; refine ⟨fun K Q hK w' hw' => ?_, ?_⟩; (focus (obtain ⟨hc', hf'⟩ := Ear.bcell (hC1.out w' hw'); simp only [Act.put, List.setIfInBounds_toArray, List.set_cons_succ, List.set_cons_zero] at hK; go_wp2; exact hw')); simp only [Act.put, List.setIfInBounds_toArray, List.set_cons_succ, List.set_cons_zero]))
          refine Ear.Pl.wpQ_nil ?_
          intro w2 hb2
          clear hC1 hC2
          have hB' : Below w.heap.size w w2 := Below.trans (by (repeat' (first | (with_reducible exact Below.refl _ _) | (with_reducible assumption) | (show Below 0 _ _; with_reducible refine Below.mono (by assumption) (Nat.zero_le _)) | (with_reducible refine below_setRow ?_ ?_ _) | (with_reducible refine Below.alloc ?_ ?_ _) | (with_reducible refine Below.drew ?_) | (with_reducible refine Below.setCell ?_ ?_ _) | (with_reducible refine Below.frame ?_ _) | (with_reducible exact Nat.le_refl _) | omega | (simp only [World.size_alloc, World.size_setCell, World.size_drew, setRow_size]; omega) | (simp; omega) | (simp; done)))) (hb2.mono (by (try simp only [World.size_alloc, World.size_setCell, World.size_drew, setRow_size]); omega)); clear hb2; (try clear hB hs); have hB := hB'; clear hB'; have hs := hB.size
          go_wp2
          go_roundw
          case rel => exact ⟨1, x.of_, hlt, by go_num, HR3, .inr ⟨0, hlt, rfl, by rw [HX.out]⟩, hB⟩
          case measure => simp [intOf]; omega
        · obtain ⟨B2, o2, he2, hl2, c0, c1, c2⟩ := nts_get j hj HL.out hB (Nat.le_refl _)
          simp only [Option.some.injEq, Addr.mk.injEq] at he2
          obtain ⟨rfl, rfl, -⟩ := he2
          rw [hjl] at c0
          have hk0 : 0 < k := by omega
          have HKJ := Lib.hid hkj
          rw [show j = k - 1 by omega] at c0
          clear hvb hkj
          by_cases hlast : last < x.of_
          · have hd : decide (x.of_ ≤ last) = false := decide_eq_false (by omega)
            have HR3 := Lib.hid (show riseFrom n x.of_ (L.drop (k + 1)) = r from by rw [← HR2.out, decide_eq_true hlast]; rfl)
            go_wp2
            refine Ear.Pl.wp_region_qb 24 (by kernel_rfl) (by kernel_rfl) (fun C hC1 hC2 => ?_); simp only [List.take_succ_cons, List.take_zero, List.drop_succ_cons, List.drop_zero]
            (iterate 5 (refine Ear.Pl.wpQ_run (by rfl) ?_; apply Exists.intro; refine ⟨fun K Q hK w' hw' => ?_, ?_⟩; (focus (obtain ⟨hc', hf'⟩ := Ear.bcell (hC1.out w' hw'); simp only [Act.put, List.setIfInBounds_toArray, List.set_cons_succ, List.set_cons_zero] at hK; go_wp2; exact hw')); simp only [Act.put, List.setIfInBounds_toArray, List.set_cons_succ, List.set_cons_zero]))
            refine Ear.Pl.wpQ_run (by rfl) ?_; apply Exists.intro; refine ⟨fun K Q hK w' hw' => ?_, ?_⟩; (focus (simp only [Act.put, List.setIfInBounds_toArray, List.set_cons_succ, List.set_cons_zero] at hK; go_wp2_with (refine (RValid_eq HV.out _).mono ?_; rintro e w'' ⟨rfl, hb''⟩); exact hC2.out _ _ hw' hb'')); simp only [Act.put, List.setIfInBounds_toArray, List.set_cons_succ, List.set_cons_zero]
            (iterate 18 (refine Ear.Pl.wpQ_run (by rfl) ?_; apply Exists.intro; refine ⟨fun K Q hK w' hw' => ?_, ?_⟩; (focus (obtain ⟨hc', hf'⟩ := Ear.bcell (hC1.out w' hw'); simp only [Act.put, List.setIfInBounds_toArray, List.set_cons_succ, List.set_cons_zero] at hK; go_wp2; exact hw')); simp only [Act.put, List.setIfInBounds_toArray, List.set_cons_succ, List.set_cons_zero]))
            refine Ear.Pl.wpQ_nil ?_
            intro w2 hb2
            clear hC1 hC2
            have hB' : Below w.heap.size w w2 := Below.trans (by (repeat' (first | (with_reducible exact Below.refl _ _) | (with_reducible assumption) | (show Below 0 _ _; with_reducible refine Below.mono (by assumption) (Nat.zero_le _)) | (with_reducible refine below_setRow ?_ ?_ _) | (with_reducible refine Below.alloc ?_ ?_ _) | (with_reducible refine Below.drew ?_) | (with_reducible refine Below.setCell ?_ ?_ _) | (with_reducible refine Below.frame ?_ _) | (with_reducible exact Nat.le_refl _) | omega | (simp only [World.size_alloc, World.size_setCell, World.size_drew, setRow_size]; omega) | (simp; omega) | (simp; done)))) (hb2.mono (by (try simp only [World.size_alloc, World.size_setCell, World.size_drew, setRow_size]); omega)); clear hb2; (try clear hB hs); have hB := hB'; clear hB'; have hs := hB.size
            go_wp2
            go_roundw
            case rel => exact ⟨k + 1, x.of_, hlt, by go_num, HR3, .inr ⟨k, hlt, rfl, by rw [HX.out]⟩, hB⟩
            case measure => simp [intOf]; omega
          · have hd : decide (x.of_ ≤ last) = true := decide_eq_true (by omega)
            go_wp2
            refine Ear.Pl.wp_region_qb 24 (by kernel_rfl) (by kernel_rfl) (fun C hC1 hC2 => ?_); simp only [List.take_succ_cons, List.take_zero, List.drop_succ_cons, List.drop_zero]
            (iterate 5 (refine Ear.Pl.wpQ_run (by rfl) ?_; apply Exists.intro; refine ⟨fun K Q hK w' hw' => ?_, ?_⟩; (focus (obtain ⟨hc', hf'⟩ := Ear.bcell (hC1.out w' hw'); simp only [Act.put, List.setIfInBounds_toArray, List.set_cons_succ, List.set_cons_zero] at hK; go_wp2; exact hw')); simp only [Act.put, List.setIfInBounds_toArray, List.set_cons_succ, List.set_cons_zero]))
            refine Ear.Pl.wpQ_run (by rfl) ?_; apply Exists.intro; refine ⟨fun K Q hK w' hw' => ?_, ?_⟩; (focus (simp only [Act.put, List.setIfInBounds_toArray, List.set_cons_succ, List.set_cons_zero] at hK; go_wp2_with (refine (RValid_eq HV.out _).mono ?_; rintro e w'' ⟨rfl, hb''⟩); exact hC2.out _ _ hw' hb'')); simp only [Act.put, List.setIfInBounds_toArray, List.set_cons_succ, List.set_cons_zero]
            (iterate 18 (refine Ear.Pl.wpQ_run (by rfl) ?_; apply Exists.intro; refine ⟨fun K Q hK w' hw' => ?_, ?_⟩; (focus (obtain ⟨hc', hf'⟩ := Ear.bcell (hC1.out w' hw'); simp only [Act.put, List.setIfInBounds_toArray, List.set_cons_succ, List.set_cons_zero] at hK; go_wp2; exact hw')); simp only [Act.put, List.setIfInBounds_toArray, List.set_cons_succ, List.set_cons_zero]))
            refine Ear.Pl.wpQ_nil ?_
            intro w2 hb2
            clear hC1 hC2
            have hB' : Below w.heap.size w w2 := Below.trans (by (repeat' (first | (with_reducible exact Below.refl _ _) | (with_reducible assumption) | (show Below 0 _ _; with_reducible refine Below.mono (by assumption) (Nat.zero_le _)) | (with_reducible refine below_setRow ?_ ?_ _) | (with_reducible refine Below.alloc ?_ ?_ _) | (with_reducible refine Below.drew ?_) | (with_reducible refine Below.setCell ?_ ?_ _) | (with_reducible refine Below.frame ?_ _) | (with_reducible exact Nat.le_refl _) | omega | (simp only [World.size_alloc, World.size_setCell, World.size_drew, setRow_size]; omega) | (simp; omega) | (simp; done)))) (hb2.mono (by (try simp only [World.size_alloc, World.size_setCell, World.size_drew, setRow_size]); omega)); clear hb2; (try clear hB hs); have hB := hB'; clear hB'; have hs := hB.size
            go_wp2
            go_ret
            exact ⟨by rw [← HR2.out, decide_eq_false (by omega : ¬ last < x.of_)]; rfl, hB⟩
    · have hk' : L.drop k = [] := List.drop_of_length_le (by omega)
      have hr := HR.out
      rw [hk'] at hr
      go_wp2
      go_ret
      exact ⟨by rw [← hr]; unfold riseFrom; rfl, hB⟩
set_option maxRecDepth 100000 in
set_option maxHeartbeats 4000000 in
theorem RNum_calls {lo cap : Nat} {base : Option Addr} {w : World} (l : List Int) (x : Int) (n : Nat) (hx : 0 ≤ x ∧ x ≤ 9223372036854775807) (h8 : n ≤ 7) (hn : l.length ≤ 100000) (h : w.ownsRow lo 5 1 (.slice base l.length cap) l.length (bytesV l)) (hlo : lo ≤ w.heap.size) :
    Calls Try.prog 40 #[.slice base l.length cap, .int .i64 x, .int .i64 n] w fun e w' => ∃ base' cap', e = .returned (.slice base' (l.length + n) cap') ∧ w'.ownsRow lo 5 1 (.slice base' (l.length + n) cap') (l.length + n) (bytesV (l ++ putL x n n)) ∧ Ear.Keep (U8 lo w) w w' := by
  obtain ⟨i0, hi, hz0, hz1, hz2⟩ := info_parts info_u8
  have HI := Lib.hid hi
  have HZ0 := Lib.hid hz0
  have HZ1 := Lib.hid hz1
  have HZ2 := Lib.hid hz2
  have HX := Lib.hid hx
  have HOW := Lib.hid h
  clear hi hz0 hz1 hz2 hx h
  go_enter Try.func40, Try.ntmps40
  go_wp2
  go_loopw [0, 7] (fun b i wr => ∃ (k : Nat) (base' : Option Addr) (cap' : Nat), k ≤ n ∧ i = .int .i64 ((n : Int) - 1 - k) ∧ b = .slice base' (l.length + k) cap' ∧ Hid (wr.ownsRow lo 5 1 (.slice base' (l.length + k) cap') (l.length + k) (bytesV (l ++ putL x n k))) ∧ Hid (Ear.Keep (U8 lo w) w wr)) (fun _ i _ => ((intOf i) + 1).toNat)
  case atStart => exact ⟨0, base, cap, by omega, by go_num, rfl, by rw [putL_zero, List.append_nil]; exact HOW, Ear.Keep.refl _ _⟩
  case round =>
    obtain ⟨k, base', cap', hk, rfl, rfl, HO, HKP⟩ := hrel
    by_cases hlt : k < n
    · obtain ⟨i, hi⟩ : ∃ i : Nat, (n : Int) - 1 - k = (i : Int) := ⟨n - 1 - k, by omega⟩
      have hi7 : i ≤ 6 := by omega
      rw [hi]
      have hps : bytesV (l ++ putL x n (k + 1)) = bytesV (l ++ putL x n k) ++ [.int .u8 (digit x i)] := by
        rw [putL_succ, ← List.append_assoc, bytesV_append, show n - 1 - k = i by omega]; rfl
      have HPS := Lib.hid hps
      clear hps
      have hx0 := HX.out.1
      have h7 : i = 0 ∨ i = 1 ∨ i = 2 ∨ i = 3 ∨ i = 4 ∨ i = 5 ∨ i = 6 := by omega
      rcases h7 with rfl | rfl | rfl | rfl | rfl | rfl | rfl
      all_goals
        go_wp2_with (at_builtin; refine wpList_append_own _ rfl _ _ 22 rfl lo 5 i0 _ 1 1 Try.underlying22 HI.out HZ0.out HZ1.out HZ2.out rfl (by decide) _ _ _ rfl (HO.out.alloc _) ⟨wr.heap.size, 0, none⟩ 1 1 _ rfl rfl (Ear.cells_new wr _ _) ?c2 ?c3 ?c4 ?c5 ?_)
        case c2 => simp [Value.oneCell']
        case c3 => unfold maxLen; omega
        case c4 => omega
        case c5 => have := HKP.out.size; simp; omega
        intro v' w3 hown' hgrow _
        have hk3 := keep_u8 (HKP.out.alloc _) (HO.out.alloc _) hgrow
        obtain ⟨base2, cap2, rfl⟩ := owns_slice hown'
        have hown2 := Lib.hid hown'
        clear hown' hgrow
        go_wp2
        go_roundw
        case rel => exact ⟨k + 1, base2, cap2, hlt, by congr 1; omega, rfl, by rw [HPS.out]; simp only [dg0, dg1, dg2, dg3, dg4, dg5, dg6]; exact hown2.out, hk3⟩
        case measure => (simp [intOf]) <;> omega
    · have hkn : k = n := by omega
      subst hkn
      go_wp2
      go_ret
      exact ⟨base', cap', rfl, HO.out, HKP.out⟩
theorem RNum_m {lo cap m r : Nat} {base : Option Addr} {w : World} {l l' : List Int} {x n' : Int} (n : Nat) (hn' : (n : Int) = n') (hm : l.length = m) (hr : m + n = r) (hL : l ++ putL x n n = l') (hx : 0 ≤ x ∧ x ≤ 9223372036854775807) (h8 : n ≤ 7) (hn : m ≤ 100000) (h : w.ownsRow lo 5 1 (.slice base m cap) m (bytesV l)) (hlo : lo ≤ w.heap.size) :
    Calls Try.prog 40 #[.slice base m cap, .int .i64 x, .int .i64 n'] w fun e w' => ∃ base' cap', e = .returned (.slice base' r cap') ∧ w'.ownsRow lo 5 1 (.slice base' r cap') r (bytesV l') ∧ Ear.Keep (U8 lo w) w w' := by
  subst hn' hm hr hL
  exact RNum_calls l x n hx h8 hn h hlo
theorem RNum_r {lo cap m r q : Nat} {base : Option Addr} {w : World} {l l' : List Int} {x n' : Int} (n : Nat) (hn' : (n : Int) = n') (hm : l.length = m) (hr : m + n = r) (hL : l ++ putL x n n = l') (hx : 0 ≤ x ∧ x ≤ 9223372036854775807) (h8 : n ≤ 7) (hn : m ≤ 100000) (h : w.ownsRow lo 5 1 (.slice base m cap) m (bytesV l)) (hlo : lo ≤ w.heap.size) (hq : q ≤ lo) {w0 : World} (hB : Below q w0 w) :
    Calls Try.prog 40 #[.slice base m cap, .int .i64 x, .int .i64 n'] w fun e w' => ∃ base' cap', e = .returned (.slice base' r cap') ∧ w'.ownsRow lo 5 1 (.slice base' r cap') r (bytesV l') ∧ Ear.Keep (U8 lo w) w w' ∧ Below q w0 w' ∧ lo ≤ w'.heap.size := by
  refine (RNum_m n hn' hm hr hL hx h8 hn h hlo).mono ?_
  rintro e w' ⟨base', cap', he, ho, hk⟩
  exact ⟨base', cap', he, ho, hk, Ear.Keep.below hB hk (by omega) (fun k h => by have := h.1; omega), Nat.le_trans hlo hk.size⟩
end Go.Proofs.Ytklfkfnckdeifaa
