/-
  The reader of bytes: notices.
-/
import Derived.Test.YtklfkfnckdeifaaWireN
import Derived.Test.YtklfkfnckdeifaaBookF
namespace Go.Proofs.Ytklfkfnckdeifaa
set_option linter.unusedSimpArgs false
set_option linter.unusedVariables false
open Go.RowKit
attribute [local irreducible] Ear.Pl.wpQ Ear.Pa.wpQ Ear.Fe.wpQ Ear.Fa.wpQ Ear.wd withinW numK heardK
theorem rset_short {w : World} {R B o cap k : Nat} {l : List Int} {n : Int} (h : RdAt w R B o cap k l) (h1 : 1 ≤ n) (h2 : n ≤ 100) (m : Nat) (hm : (m : Int) = (n + 7) / 8) (hn : l.length < k + m) :
    Calls Try.prog 55 #[.pointer (some ⟨R, 0, none⟩), .int .i64 n] w fun e w' => e = boomE 76 ∧ Ear.Keep (fun b => b = R) w w' := by
  have H := Lib.hid h
  clear h
  go_enter Try.func55, Try.ntmps55
  go_wp2_with (go_at_call 52; (with_reducible refine Calls.mono (rbytes_short (H.out.keep (S := fun _ => False) (Ear.Keep.of_below (by (repeat' (first | (with_reducible exact Below.refl _ _) | (with_reducible assumption) | (show Below 0 _ _; with_reducible refine Below.mono (by assumption) (Nat.zero_le _)) | (with_reducible refine below_setRow ?_ ?_ _) | (with_reducible refine Below.alloc ?_ ?_ _) | (with_reducible refine Below.drew ?_) | (with_reducible refine Below.setCell ?_ ?_ _) | (with_reducible refine Below.frame ?_ _) | (with_reducible exact Nat.le_refl _) | omega | (simp only [World.size_alloc, World.size_setCell, World.size_drew, setRow_size]; omega) | (simp; omega) | (simp; done))))) id id) m hm hn) ?_); rintro e w1 ⟨rfl, he⟩; subst w1)
  exact ⟨rfl, rfl, Ear.Keep.of_below (by (repeat' (first | (with_reducible exact Below.refl _ _) | (with_reducible assumption) | (show Below 0 _ _; with_reducible refine Below.mono (by assumption) (Nat.zero_le _)) | (with_reducible refine below_setRow ?_ ?_ _) | (with_reducible refine Below.alloc ?_ ?_ _) | (with_reducible refine Below.drew ?_) | (with_reducible refine Below.setCell ?_ ?_ _) | (with_reducible refine Below.frame ?_ _) | (with_reducible exact Nat.le_refl _) | omega | (simp only [World.size_alloc, World.size_setCell, World.size_drew, setRow_size]; omega) | (simp; omega) | (simp; done))))⟩
/-- The notice that lies at p; so many of them. -/
def ntK (l : List Int) (p : Nat) : Nt := { of_ := l.getD p 0, tag := numK l (p + 2) 3, kind := l.getD (p + 1) 0 }
theorem ntK_eq (l : List Int) (p : Nat) : ntK l p = ⟨l.getD p 0, numK l (p + 2) 3, l.getD (p + 1) 0⟩ := rfl
def newsK (l : List Int) (p : Nat) (m : Nat) : List Nt := (List.range m).map fun i => ntK l (p + i * 5)
theorem newsK_zero (l : List Int) (p : Nat) : newsK l p 0 = [] := rfl
theorem newsK_succ (l : List Int) (p m : Nat) : newsK l p (m + 1) = newsK l p m ++ [ntK l (p + m * 5)] := by unfold newsK; rw [List.range_succ, List.map_append]; rfl
theorem newsK_len (l : List Int) (p m : Nat) : (newsK l p m).length = m := by simp [newsK]
theorem newsK_get (l : List Int) (p m i : Nat) (h : i < m) (h2 : i < (newsK l p m).length) : (newsK l p m)[i] = ntK l (p + i * 5) := by simp [newsK]
/-- What m notices from p on are refused with. -/
def newsE (l : List Int) (n : Int) : Nat → Nat → Int → Int
  | 0, _, _ => 0
  | m + 1, p, prev => if l.length < p + 5 then 76 else if validN n (ntK l p) = true ∧ prev < (ntK l p).of_ then newsE l n m (p + 5) (ntK l p).of_ else 75
theorem newsE_zero (l : List Int) (n : Int) (p : Nat) (prev : Int) : newsE l n 0 p prev = 0 := rfl
theorem newsE_succ (l : List Int) (n : Int) (m p : Nat) (prev : Int) : newsE l n (m + 1) p prev = if l.length < p + 5 then 76 else if validN n (ntK l p) = true ∧ prev < (ntK l p).of_ then newsE l n m (p + 5) (ntK l p).of_ else 75 := rfl
def prevK (l : List Int) (p i : Nat) : Int := if i = 0 then -1 else (ntK l (p + (i - 1) * 5)).of_
theorem prevK_zero (l : List Int) (p : Nat) : prevK l p 0 = -1 := rfl
theorem prevK_succ (l : List Int) (p i : Nat) : prevK l p (i + 1) = (ntK l (p + i * 5)).of_ := by simp [prevK]
theorem numberOf_b {w : World} {B o cap k m : Nat} {l : List Int} (hl : LiesV (bytesV l) (some ⟨B, o, none⟩) w) (hb : byteOk l) (hn : k + m ≤ l.length) (h5 : m ≤ 5) :
    Calls Try.prog 62 #[.slice (some ⟨B, o + k, none⟩) m cap] w fun e w' => e = .returned (.int .i64 (numK l k m)) ∧ Below w.heap.size w w' := by
  refine (numberOf_calls hl hb hn h5).mono ?_
  rintro e w' ⟨he, rfl⟩
  exact ⟨he, Below.refl _ _⟩
theorem owns_keep {w w' : World} {b e s n : Nat} {v : Value} {xs : List Value} {S : Nat → Prop} (h : w.ownsRow b e s v n xs) (hk : Ear.Keep S w w') (hS : ∀ k, b ≤ k → ¬ S k) : w'.ownsRow b e s v n xs := by
  obtain ⟨hl, h | ⟨g, cap', cur, hv, hb1, hc, hr⟩⟩ := h
  · exact ⟨hl, .inl h⟩
  · exact ⟨hl, .inr ⟨g, cap', cur, hv, hb1, (hk.block g (Array.getElem?_eq_some_iff.1 hc).1 (hS g hb1)).trans hc, hr⟩⟩
theorem numK_one (l : List Int) (k : Nat) : numK l k 1 = l.getD k 0 := by
  unfold numK; unfold numK; simp
theorem RdAt.size {w : World} {R B o cap k : Nat} {l : List Int} (h : RdAt w R B o cap k l) : R < w.heap.size := by obtain ⟨q, _, hx⟩ := h.blk; exact hx.lt
theorem RdAt.size_b {w : World} {R B o cap k : Nat} {l : List Int} (h : RdAt w R B o cap k l) (hl : 0 < l.length) : B < w.heap.size := by
  obtain ⟨B', o', he, hB', -⟩ := h.lies 0 (by rw [bytesV_len]; omega)
  injection he with he
  injection he with he
  exact he ▸ hB'
attribute [local irreducible] newsE ntK newsK prevK validN
set_option maxRecDepth 100000 in
set_option maxHeartbeats 8000000 in
theorem rnews_calls {w : World} {R B o cap k m : Nat} {l : List Int} {n c : Int} (h : RdAt w R B o cap k l) (hb : byteOk l) (hk : k + 1 ≤ l.length) (hn : n ≤ 100) (hm : l.getD k 0 = m) (hmn : (m : Int) ≤ n) (hc : newsE l n m (k + 1) (-1) = c) :
    Calls Try.prog 56 #[.pointer (some ⟨R, 0, none⟩), .int .i64 n] w fun e w' => (c = 0 → ∃ nb nc, e = .returned (.slice nb m nc) ∧ w'.ownsRow w.heap.size 84 3 (.slice nb m nc) m (ntsV (newsK l (k + 1) m)) ∧ RdAt w' R B o cap (k + 1 + m * 5) l ∧ Ear.Keep (fun b => b = R) w w') ∧ (c ≠ 0 → e = boomE c ∧ Ear.Keep (fun b => b = R) w w') := by
  obtain ⟨i0, hi, hz0, hz1, hz2⟩ := info_parts info_nt
  have HI := Lib.hid hi
  have HZ0 := Lib.hid hz0
  have HZ1 := Lib.hid hz1
  have HZ2 := Lib.hid hz2
  have H := Lib.hid h
  have HB := Lib.hid hb
  have HC := Lib.hid hc
  have HM := Lib.hid (show numK l k 1 = (m : Int) from (numK_one l k).trans hm)
  have hlR := h.size
  have hlB := h.size_b (by omega)
  have hlen := h.le
  have hcap := h.cap
  have hmm : decide ((m : Int) ≤ n) = true := decide_eq_true hmn
  clear h hb hi hz0 hz1 hz2 hc hm
  go_enter Try.func56, Try.ntmps56
  go_wp2_with (first
    | (go_at_call 54; (with_reducible refine Calls.mono (rnum_ok H.out HB.out 1 rfl (by omega) (by omega) hk) ?_); rintro e w1 ⟨rfl, hr1, hk1⟩; rw [HM.out]; have H1 := Lib.hid hr1; have HK1 := Lib.hid hk1; clear hr1 hk1)
    | (go_at_call 53; (with_reducible refine Calls.mono (need_ok _ _) ?_); rintro e w2 ⟨rfl, he⟩; subst w2))
  have hz1 := HK1.out.size
  go_loopw [6, 7, 8, 9, 17] (fun out _ _ _ ix wr => ∃ (i : Nat) (base : Option Addr) (cp : Nat), i ≤ m ∧ ix = .int .i64 i ∧ out = .slice base i cp ∧ Hid (wr.ownsRow w.heap.size 84 3 (.slice base i cp) i (ntsV (newsK l (k + 1) i))) ∧ Hid (RdAt wr R B o cap (k + 1 + i * 5) l) ∧ Hid (Ear.Keep (fun b => b = R) w wr) ∧ Hid (newsE l n (m - i) (k + 1 + i * 5) (prevK l (k + 1) i) = c)) (fun _ _ _ _ ix _ => m - (intOf ix).toNat)
  case atStart => exact ⟨0, none, 0, by omega, rfl, rfl, Lib.hid (by rw [newsK_zero]; exact World.ownsRow_nil _ _ _ _), H1, HK1, Lib.hid (by rw [Nat.zero_mul, Nat.add_zero, Nat.sub_zero, prevK_zero]; exact HC.out)⟩
  case round =>
    clear H1 HK1 HC
    obtain ⟨i, base, cp, him, rfl, rfl, HO, HR, HK, HE⟩ := hrel
    by_cases hlt : i < m
    · obtain ⟨p, hp⟩ : ∃ p, k + 1 + i * 5 = p := ⟨_, rfl⟩
      rw [hp] at HR HE
      have HP := Lib.hid hp
      obtain ⟨t, ht⟩ : ∃ t, m - i = t + 1 := ⟨m - i - 1, by omega⟩
      rw [ht, newsE_succ] at HE
      by_cases h5 : l.length < p + 5
      · have HCC := Lib.hid (show c = 76 from by have := HE.out; rw [if_pos h5] at this; exact this.symm)
        clear hp
        go_wp2_with (go_at_call 52; (with_reducible refine Calls.mono (rbytes_short HR.out 5 rfl h5) ?_); rintro e w3 ⟨rfl, he⟩; subst w3)
        exact ⟨rfl, fun h => by have := HCC.out; omega, fun _ => ⟨by rw [HCC.out], HK.out⟩⟩
      · have hp5 : p + 5 ≤ l.length := by omega
        have hcp : ¬ (cap - p = 2) := by omega
        clear hp
        go_wp2_with (go_at_call 52; (with_reducible refine Calls.mono (rbytes_ok HR.out 5 rfl (by omega) hp5) ?_); rintro e w3 ⟨rfl, hr3, hk3⟩; have HR3 := Lib.hid hr3; have HK3 := Lib.hid (HK.out.trans hk3); have HO3 := Lib.hid (owns_keep HO.out hk3 (fun j hj h => by omega)); clear hr3 hk3)
        obtain ⟨a0, x0, x1⟩ := read_at HR3.out.lies HB.out p (by omega)
        obtain ⟨a1, y0, y1⟩ := read_at HR3.out.lies HB.out (p + 1) (by omega)
        rw [← Nat.add_assoc] at a1
        generalize hxo : l.getD p 0 = xo at a0 x0 x1
        generalize hxk : l.getD (p + 1) 0 = xk at a1 y0 y1
        have hz3 := HK3.out.size
        have hlB3 : B < w3.heap.size := by omega
        have HNT := Lib.hid (show ntK l p = ⟨xo, numK l (p + 2) 3, xk⟩ from by rw [← hxo, ← hxk]; exact ntK_eq l p)
        generalize hxt : numK l (p + 2) 3 = xt at HNT
        refine Ear.Pa.wp_region_qa 13 [(12, 9, 84, [.int .i64 0, .int .i64 0, .int .i64 0])] (by (simp only [List.map_cons, List.map_nil, Ear.repl]; rfl)) (by kernel_rfl) (by kernel_rfl) (by kernel_rfl) (by (intro p hp o ho; simp only [List.mem_cons, List.not_mem_nil, or_false] at hp; (rcases hp with rfl); all_goals (cases ho; intro a' w' K' Q' hK'; go_wp2; exact hK'))) (fun C hC1 hC2 => ?_); simp only [List.take_succ_cons, List.take_zero, List.drop_succ_cons, List.drop_zero]
        (iterate 10 (refine Ear.Pa.wpQ_run (by rfl) ?_; apply Exists.intro; refine ⟨fun K Q w' hw' hK => ?_, ?_⟩; (focus (obtain ⟨hc', hf'⟩ := Ear.bcell (hC1.out w' hw'); simp only [Act.put, List.setIfInBounds_toArray, List.set_cons_succ, List.set_cons_zero] at hK; go_wp2; exact hC2.out _ _ hw' (Below.refl _ _))); simp only [Act.put, List.setIfInBounds_toArray, List.set_cons_succ, List.set_cons_zero]))
        refine Ear.Pa.wpQ_run (by rfl) ?_; apply Exists.intro; refine ⟨fun K Q w' hw' hK => ?_, ?_⟩; (focus (simp only [Act.put, List.setIfInBounds_toArray, List.set_cons_succ, List.set_cons_zero] at hK; go_wp2_with (refine (numberOf_b (k := p + 2) (HR3.out.keep (S := fun _ => False) (Ear.Keep.of_below (((Below.refl _ _).drew).trans (hC1.out w' hw'))) id id).lies HB.out (by omega) (by omega)).mono ?_; rintro e w'' ⟨rfl, hb''⟩); exact hC2.out _ _ hw' hb'')); simp only [Act.put, List.setIfInBounds_toArray, List.set_cons_succ, List.set_cons_zero]
        (iterate 1 (refine Ear.Pa.wpQ_run (by rfl) ?_; apply Exists.intro; refine ⟨fun K Q w' hw' hK => ?_, ?_⟩; (focus (obtain ⟨hc', hf'⟩ := Ear.bcell (hC1.out w' hw'); simp only [Act.put, List.setIfInBounds_toArray, List.set_cons_succ, List.set_cons_zero] at hK; go_wp2; exact hC2.out _ _ hw' (Below.refl _ _))); simp only [Act.put, List.setIfInBounds_toArray, List.set_cons_succ, List.set_cons_zero]))
        (iterate 1 (refine Ear.Pa.wpQ_run (by rfl) ?_; refine ⟨undef, fun K Q w' hw' hK => ?_, ?_⟩; (focus (simp only [Act.put, List.setIfInBounds_toArray, List.set_cons_succ, List.set_cons_zero] at hK; go_wp2; exact hC2.out _ _ hw' (Below.refl _ _))); simp only [Act.put, List.setIfInBounds_toArray, List.set_cons_succ, List.set_cons_zero]))
        refine Ear.Pa.wpQ_nil ?_
        intro w4 o4 hb4 ho
        simp only [Ear.ov, Ear.ovo, Act.put, List.setIfInBounds_toArray, List.set_cons_succ, List.set_cons_zero]; obtain ⟨ht_B, ht_e, ht_n, ht⟩ := ho.one; rw [ht_e]; clear ht_e ho; (try simp only [World.size_alloc, World.size_setCell, World.size_drew] at ht_n)
        clear hC1 hC2
        have hB4 : Below w3.heap.size w3 w4 := ((Below.refl _ w3).drew).trans hb4
        have ht_l := ht.lt
        have ht_c := ht.cell
        have ht_f := ht.frozen
        have hlB4 := Nat.lt_of_lt_of_le hlB3 hB4.size
        clear hb4 a0 a1 hxo hxk hxt
        go_wp2
        refine Ear.wp_world (fun W => Ear.Blk W ht_B 84 [.int .i64 xo, .int .i64 xt, .int .i64 xk] ∧ Below w3.heap.size w3 W) ⟨Ear.Blk.renew (Ear.Blk.setC (Ear.Blk.setC (Ear.Blk.setC ht))) rfl, by (repeat' (first | (with_reducible exact Below.refl _ _) | (with_reducible assumption) | (show Below 0 _ _; with_reducible refine Below.mono (by assumption) (Nat.zero_le _)) | (with_reducible refine below_setRow ?_ ?_ _) | (with_reducible refine Below.alloc ?_ ?_ _) | (with_reducible refine Below.drew ?_) | (with_reducible refine Below.setCell ?_ ?_ _) | (with_reducible refine Below.frame ?_ _) | (with_reducible exact Nat.le_refl _) | omega | (simp only [World.size_alloc, World.size_setCell, World.size_drew, setRow_size]; omega) | (simp; omega) | (simp; done)))⟩ ?_
        clear ht ht_l ht_c ht_f hB4 hlB4
        rintro w5 ⟨hx, hB5⟩
        have hx_l := hx.lt
        have hx_c := hx.cell
        have hs5 := hB5.size
        have HR5 := Lib.hid (HR3.out.keep (S := fun _ => False) (Ear.Keep.of_below hB5) id id)
        have HK5 := Lib.hid (HK3.out.call hB5)
        have HO5 := Lib.hid (owns_below HO3.out hB5)
        clear HR3 HK3 HO3 hB5 HR HK HO
        rw [if_neg h5] at HE
        have hnt := HNT.out
        obtain ⟨v, hv⟩ : ∃ v, validN n (ntK l p) = v := ⟨_, rfl⟩
        rw [hnt] at hv
        have HV := Lib.hid hv
        cases v with
        | false =>
          have HCC := Lib.hid (show c = 75 from by have := HE.out; rw [hnt, if_neg (by rw [hv]; simp)] at this; exact this.symm)
          clear hv hnt
          go_wp2
          refine Ear.Pl.wp_region_qb 18 (by kernel_rfl) (by kernel_rfl) (fun C hC1 hC2 => ?_); simp only [List.take_succ_cons, List.take_zero, List.drop_succ_cons, List.drop_zero]
          (iterate 2 (refine Ear.Pl.wpQ_run (by rfl) ?_; apply Exists.intro; refine ⟨fun K Q hK w' hw' => ?_, ?_⟩; (focus (obtain ⟨hc', hf'⟩ := Ear.bcell (hC1.out w' hw'); simp only [Act.put, List.setIfInBounds_toArray, List.set_cons_succ, List.set_cons_zero] at hK; go_wp2; exact hw')); simp only [Act.put, List.setIfInBounds_toArray, List.set_cons_succ, List.set_cons_zero]))
          refine Ear.Pl.wpQ_run (by rfl) ?_; apply Exists.intro; refine ⟨fun K Q hK w' hw' => ?_, ?_⟩; (focus (simp only [Act.put, List.setIfInBounds_toArray, List.set_cons_succ, List.set_cons_zero] at hK; go_wp2_with (refine (Valid_eq HV.out _).mono ?_; rintro e w'' ⟨rfl, hb''⟩); exact hC2.out _ _ hw' hb'')); simp only [Act.put, List.setIfInBounds_toArray, List.set_cons_succ, List.set_cons_zero]
          (iterate 1 (refine Ear.Pl.wpQ_run (by rfl) ?_; apply Exists.intro; refine ⟨fun K Q hK w' hw' => ?_, ?_⟩; (focus (obtain ⟨hc', hf'⟩ := Ear.bcell (hC1.out w' hw'); simp only [Act.put, List.setIfInBounds_toArray, List.set_cons_succ, List.set_cons_zero] at hK; go_wp2; exact hw')); simp only [Act.put, List.setIfInBounds_toArray, List.set_cons_succ, List.set_cons_zero]))
          (iterate 13 (refine Ear.Pl.wpQ_skip (by rfl) ?_; simp only [Act.put, List.setIfInBounds_toArray, List.set_cons_succ, List.set_cons_zero]))
          (iterate 1 (refine Ear.Pl.wpQ_run (by rfl) ?_; apply Exists.intro; refine ⟨fun K Q hK w' hw' => ?_, ?_⟩; (focus (obtain ⟨hc', hf'⟩ := Ear.bcell (hC1.out w' hw'); simp only [Act.put, List.setIfInBounds_toArray, List.set_cons_succ, List.set_cons_zero] at hK; go_wp2; exact hw')); simp only [Act.put, List.setIfInBounds_toArray, List.set_cons_succ, List.set_cons_zero]))
          refine Ear.Pl.wpQ_nil ?_
          intro w6 hb6
          clear hC1 hC2
          have HK6 := Lib.hid (HK5.out.call (((Below.refl _ w5).drew).trans hb6))
          clear hb6
          go_wp2_with (go_at_call 53; (with_reducible refine Calls.mono (need_no _ _) ?_); rintro e w7 ⟨rfl, he⟩; subst w7)
          exact ⟨rfl, fun h => by have := HCC.out; omega, fun _ => ⟨by rw [HCC.out], HK6.out⟩⟩
        | true =>
          clear hv
          cases i with
          | zero =>
            have HLT := Lib.hid (show prevK l (k + 1) 0 < xo from by rw [prevK_zero]; omega)
            go_wp2
            refine Ear.Pl.wp_region_qb 18 (by kernel_rfl) (by kernel_rfl) (fun C hC1 hC2 => ?_); simp only [List.take_succ_cons, List.take_zero, List.drop_succ_cons, List.drop_zero]
            (iterate 2 (refine Ear.Pl.wpQ_run (by rfl) ?_; apply Exists.intro; refine ⟨fun K Q hK w' hw' => ?_, ?_⟩; (focus (obtain ⟨hc', hf'⟩ := Ear.bcell (hC1.out w' hw'); simp only [Act.put, List.setIfInBounds_toArray, List.set_cons_succ, List.set_cons_zero] at hK; go_wp2; exact hw')); simp only [Act.put, List.setIfInBounds_toArray, List.set_cons_succ, List.set_cons_zero]))
            refine Ear.Pl.wpQ_run (by rfl) ?_; apply Exists.intro; refine ⟨fun K Q hK w' hw' => ?_, ?_⟩; (focus (simp only [Act.put, List.setIfInBounds_toArray, List.set_cons_succ, List.set_cons_zero] at hK; go_wp2_with (refine (Valid_eq HV.out _).mono ?_; rintro e w'' ⟨rfl, hb''⟩); exact hC2.out _ _ hw' hb'')); simp only [Act.put, List.setIfInBounds_toArray, List.set_cons_succ, List.set_cons_zero]
            (iterate 4 (refine Ear.Pl.wpQ_run (by rfl) ?_; apply Exists.intro; refine ⟨fun K Q hK w' hw' => ?_, ?_⟩; (focus (obtain ⟨hc', hf'⟩ := Ear.bcell (hC1.out w' hw'); simp only [Act.put, List.setIfInBounds_toArray, List.set_cons_succ, List.set_cons_zero] at hK; go_wp2; exact hw')); simp only [Act.put, List.setIfInBounds_toArray, List.set_cons_succ, List.set_cons_zero]))
            (iterate 9 (refine Ear.Pl.wpQ_skip (by rfl) ?_; simp only [Act.put, List.setIfInBounds_toArray, List.set_cons_succ, List.set_cons_zero]))
            (iterate 2 (refine Ear.Pl.wpQ_run (by rfl) ?_; apply Exists.intro; refine ⟨fun K Q hK w' hw' => ?_, ?_⟩; (focus (obtain ⟨hc', hf'⟩ := Ear.bcell (hC1.out w' hw'); simp only [Act.put, List.setIfInBounds_toArray, List.set_cons_succ, List.set_cons_zero] at hK; go_wp2; exact hw')); simp only [Act.put, List.setIfInBounds_toArray, List.set_cons_succ, List.set_cons_zero]))
            refine Ear.Pl.wpQ_nil ?_
            intro w6 hb6
            clear hC1 hC2
            have hB6 : Below w5.heap.size w5 w6 := ((Below.refl _ w5).drew).trans hb6
            have HK6 := Lib.hid (HK5.out.call hB6)
            have hx6 := hx.below hB6 hx_l
            have hx6_l := hx6.lt
            have hx6_c := hx6.cell
            have HR6 := Lib.hid (HR5.out.keep (S := fun _ => False) (Ear.Keep.of_below hB6) id id)
            have HO6 := Lib.hid (owns_below HO5.out hB6)
            clear hb6 hx hx_l hx_c HR5 HO5 HK5
            have HEE := Lib.hid (show newsE l n (m - (0 + 1)) (k + 1 + (0 + 1) * 5) (prevK l (k + 1) (0 + 1)) = c from by
              have := HE.out
              rw [hnt, if_pos ⟨HV.out, HLT.out⟩] at this
              rw [(prevK_succ l (k + 1) 0).trans (congrArg Nt.of_ ((congrArg (ntK l) HP.out).trans hnt)), show k + 1 + (0 + 1) * 5 = p + 5 by have := HP.out; omega, show m - (0 + 1) = t by omega]
              exact this)
            have HNS := Lib.hid (show newsK l (k + 1) (0 + 1) = newsK l (k + 1) 0 ++ [⟨xo, xt, xk⟩] from by rw [newsK_succ, (congrArg (ntK l) HP.out).trans hnt])
            have hP5 := Lib.hid (show k + 1 + (0 + 1) * 5 = p + 5 by have := HP.out; omega)
            have hown := HO6.out
            have hm100 : m ≤ 100 := by omega
            clear hnt HE
            go_wp2_with (first
              | (go_at_call 53; (with_reducible refine Calls.mono (need_ok _ _) ?_); rintro e w7 ⟨rfl, he⟩; subst w7)
              | (at_builtin; refine wpList_append_own _ rfl _ _ 31 rfl w.heap.size 84 i0 _ 3 24 Try.underlying31 HI.out HZ0.out HZ1.out HZ2.out rfl (by decide) _ _ _ rfl (hown.alloc _) ⟨w6.heap.size, 0, none⟩ 1 1 [.int .i64 xo, .int .i64 xt, .int .i64 xk] rfl rfl ?c1 ?c2 ?c3 ?c4 ?c5 ?_))
            case c1 => exact Ear.cells_new w6 [.int .i64 xo, .int .i64 xt, .int .i64 xk] _
            case c2 => simp [Value.oneCell']
            case c3 => unfold maxLen; omega
            case c4 => omega
            case c5 => first | omega | (have := HK6.out.size; simp; omega)
            intro v' w13 hown' hgrow _
            obtain ⟨base', cap', rfl⟩ := owns_slice hown'
            have HO13 := Lib.hid hown'
            have hB13 : Below w6.heap.size w6 (w6.alloc (.cells #[.int .i64 xo, .int .i64 xt, .int .i64 xk] 84)) := (Below.refl _ w6).alloc (Nat.le_refl _) _
            have HK13 := Lib.hid (Ear.Keep.grown (HK6.out.call hB13) hgrow (fun j hj => .inr (hown.lt j hj).1))
            have HR13 := Lib.hid ((HR6.out.keep (S := fun _ => False) (Ear.Keep.of_below hB13) id id).keep (S := fun b => w.heap.size ≤ b) (Ear.Keep.grown (Ear.Keep.refl _ _) hgrow (fun j hj => .inl (hown.lt j hj).1)) (by omega) (by omega))
            clear hown hown' hgrow
            go_wp2
            go_roundw
            case rel => exact ⟨0 + 1, base', cap', by omega, by go_num, rfl, Lib.hid (by rw [HNS.out, ntsV_snoc]; simpa [ntV] using HO13.out), Lib.hid (by rw [hP5.out]; exact HR13.out), HK13, HEE⟩
            case measure => simp [intOf]; omega
          | succ q =>
            obtain ⟨B2, o2, rfl, hl2, b0, -, -⟩ := nts_get q (by rw [newsK_len]; omega) (owns_liesV HO5.out) (Below.refl _ _) (Nat.le_refl _)
            rw [newsK_get l (k + 1) (q + 1) q (by omega) _] at b0
            have HPREV := Lib.hid (prevK_succ l (k + 1) q)
            generalize (ntK l (k + 1 + q * 5)).of_ = po at b0 HPREV
            obtain ⟨d, hd⟩ : ∃ d, decide (po < xo) = d := ⟨_, rfl⟩
            have hq0 : ((q : Int) + 1 == 0) = false := beq_eq_false_iff_ne.2 (by omega)
            go_wp2
            refine Ear.Pl.wp_region_qb 18 (by kernel_rfl) (by kernel_rfl) (fun C hC1 hC2 => ?_); simp only [List.take_succ_cons, List.take_zero, List.drop_succ_cons, List.drop_zero]
            (iterate 2 (refine Ear.Pl.wpQ_run (by rfl) ?_; apply Exists.intro; refine ⟨fun K Q hK w' hw' => ?_, ?_⟩; (focus (obtain ⟨hc', hf'⟩ := Ear.bcell (hC1.out w' hw'); simp only [Act.put, List.setIfInBounds_toArray, List.set_cons_succ, List.set_cons_zero] at hK; go_wp2; exact hw')); simp only [Act.put, List.setIfInBounds_toArray, List.set_cons_succ, List.set_cons_zero]))
            refine Ear.Pl.wpQ_run (by rfl) ?_; apply Exists.intro; refine ⟨fun K Q hK w' hw' => ?_, ?_⟩; (focus (simp only [Act.put, List.setIfInBounds_toArray, List.set_cons_succ, List.set_cons_zero] at hK; go_wp2_with (refine (Valid_eq HV.out _).mono ?_; rintro e w'' ⟨rfl, hb''⟩); exact hC2.out _ _ hw' hb'')); simp only [Act.put, List.setIfInBounds_toArray, List.set_cons_succ, List.set_cons_zero]
            cases d with
            | false =>
              (iterate 15 (refine Ear.Pl.wpQ_run (by rfl) ?_; apply Exists.intro; refine ⟨fun K Q hK w' hw' => ?_, ?_⟩; (focus (obtain ⟨hc', hf'⟩ := Ear.bcell (hC1.out w' hw'); simp only [Act.put, List.setIfInBounds_toArray, List.set_cons_succ, List.set_cons_zero] at hK; go_wp2; exact hw')); simp only [Act.put, List.setIfInBounds_toArray, List.set_cons_succ, List.set_cons_zero]))
              refine Ear.Pl.wpQ_nil ?_
              intro w6 hb6
              clear hC1 hC2
              have hB6 : Below w5.heap.size w5 w6 := ((Below.refl _ w5).drew).trans hb6
              have HK6 := Lib.hid (HK5.out.call hB6)
              have hx6 := hx.below hB6 hx_l
              have hx6_l := hx6.lt
              have hx6_c := hx6.cell
              have HR6 := Lib.hid (HR5.out.keep (S := fun _ => False) (Ear.Keep.of_below hB6) id id)
              have HO6 := Lib.hid (owns_below HO5.out hB6)
              clear hb6 hx hx_l hx_c HR5 HO5 HK5
              have HCC := Lib.hid (show c = 75 from by have := HE.out; rw [hnt, if_neg (by rintro ⟨-, h⟩; rw [HPREV.out] at h; exact absurd h (of_decide_eq_false hd))] at this; exact this.symm)
              go_wp2_with (go_at_call 53; (with_reducible refine Calls.mono (need_no _ _) ?_); rintro e w7 ⟨rfl, he⟩; subst w7)
              exact ⟨rfl, fun h => by have := HCC.out; omega, fun _ => ⟨by rw [HCC.out], HK6.out⟩⟩
            | true =>
              (iterate 15 (refine Ear.Pl.wpQ_run (by rfl) ?_; apply Exists.intro; refine ⟨fun K Q hK w' hw' => ?_, ?_⟩; (focus (obtain ⟨hc', hf'⟩ := Ear.bcell (hC1.out w' hw'); simp only [Act.put, List.setIfInBounds_toArray, List.set_cons_succ, List.set_cons_zero] at hK; go_wp2; exact hw')); simp only [Act.put, List.setIfInBounds_toArray, List.set_cons_succ, List.set_cons_zero]))
              have HLT := Lib.hid (show prevK l (k + 1) (q + 1) < xo from by rw [HPREV.out]; exact of_decide_eq_true hd)
              refine Ear.Pl.wpQ_nil ?_
              intro w6 hb6
              clear hC1 hC2
              have hB6 : Below w5.heap.size w5 w6 := ((Below.refl _ w5).drew).trans hb6
              have HK6 := Lib.hid (HK5.out.call hB6)
              have hx6 := hx.below hB6 hx_l
              have hx6_l := hx6.lt
              have hx6_c := hx6.cell
              have HR6 := Lib.hid (HR5.out.keep (S := fun _ => False) (Ear.Keep.of_below hB6) id id)
              have HO6 := Lib.hid (owns_below HO5.out hB6)
              clear hb6 hx hx_l hx_c HR5 HO5 HK5
              have HEE := Lib.hid (show newsE l n (m - ((q + 1) + 1)) (k + 1 + ((q + 1) + 1) * 5) (prevK l (k + 1) ((q + 1) + 1)) = c from by
                have := HE.out
                rw [hnt, if_pos ⟨HV.out, HLT.out⟩] at this
                rw [(prevK_succ l (k + 1) (q + 1)).trans (congrArg Nt.of_ ((congrArg (ntK l) HP.out).trans hnt)), show k + 1 + ((q + 1) + 1) * 5 = p + 5 by have := HP.out; omega, show m - ((q + 1) + 1) = t by omega]
                exact this)
              have HNS := Lib.hid (show newsK l (k + 1) ((q + 1) + 1) = newsK l (k + 1) (q + 1) ++ [⟨xo, xt, xk⟩] from by rw [newsK_succ, (congrArg (ntK l) HP.out).trans hnt])
              have hP5 := Lib.hid (show k + 1 + ((q + 1) + 1) * 5 = p + 5 by have := HP.out; omega)
              have hown := HO6.out
              have hm100 : m ≤ 100 := by omega
              clear hnt HE
              go_wp2_with (first
                | (go_at_call 53; (with_reducible refine Calls.mono (need_ok _ _) ?_); rintro e w7 ⟨rfl, he⟩; subst w7)
                | (at_builtin; refine wpList_append_own _ rfl _ _ 31 rfl w.heap.size 84 i0 _ 3 24 Try.underlying31 HI.out HZ0.out HZ1.out HZ2.out rfl (by decide) _ _ _ rfl (hown.alloc _) ⟨w6.heap.size, 0, none⟩ 1 1 [.int .i64 xo, .int .i64 xt, .int .i64 xk] rfl rfl ?c1 ?c2 ?c3 ?c4 ?c5 ?_))
              case c1 => exact Ear.cells_new w6 [.int .i64 xo, .int .i64 xt, .int .i64 xk] _
              case c2 => simp [Value.oneCell']
              case c3 => unfold maxLen; omega
              case c4 => omega
              case c5 => first | omega | (have := HK6.out.size; simp; omega)
              intro v' w13 hown' hgrow _
              obtain ⟨base', cap', rfl⟩ := owns_slice hown'
              have HO13 := Lib.hid hown'
              have hB13 : Below w6.heap.size w6 (w6.alloc (.cells #[.int .i64 xo, .int .i64 xt, .int .i64 xk] 84)) := (Below.refl _ w6).alloc (Nat.le_refl _) _
              have HK13 := Lib.hid (Ear.Keep.grown (HK6.out.call hB13) hgrow (fun j hj => .inr (hown.lt j hj).1))
              have HR13 := Lib.hid ((HR6.out.keep (S := fun _ => False) (Ear.Keep.of_below hB13) id id).keep (S := fun b => w.heap.size ≤ b) (Ear.Keep.grown (Ear.Keep.refl _ _) hgrow (fun j hj => .inl (hown.lt j hj).1)) (by omega) (by omega))
              clear hown hown' hgrow
              go_wp2
              go_roundw
              case rel => exact ⟨(q + 1) + 1, base', cap', by omega, by go_num, rfl, Lib.hid (by rw [HNS.out, ntsV_snoc]; simpa [ntV] using HO13.out), Lib.hid (by rw [hP5.out]; exact HR13.out), HK13, HEE⟩
              case measure => simp [intOf]; omega
    · have : i = m := by omega
      subst this
      have HCC := Lib.hid (show c = 0 from by have := HE.out; rw [Nat.sub_self, newsE_zero] at this; exact this.symm)
      go_wp2
      go_ret
      exact ⟨fun _ => ⟨base, cp, rfl, HO.out, HR.out, HK.out⟩, fun h => absurd HCC.out h⟩
end Go.Proofs.Ytklfkfnckdeifaa
