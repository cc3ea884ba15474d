/-
  What the law TallyNamed comes to.
-/
import Derived.Test.YtjopmnfmifbmbaaTallyM
namespace Go.Proofs.Ytjopmnfmifbmbaa
set_option linter.unusedSimpArgs false
set_option linter.unusedVariables false
open Go.RowKit
theorem New_badZ {n f self round c : Int} (w : World) (h : newE n f self round 0#128 = c) (hc : c ≠ 0) :
    Calls Try.prog 11 #[.int .i64 n, .int .i64 f, .int .i64 self, .int .i64 round, .agg #[.int .u32 0, .int .u32 0, .int .u32 0, .int .u32 0]] w fun e w' =>
      e = .returned (.tuple #[.pointer none, .int .i64 c]) ∧ Below w.heap.size w w' := by
  rw [← zeroS]; exact New_bad w h hc
theorem New_oneZ {n f self round : Int} {w0 W : World} (hb : Below w0.heap.size w0 W) (h : newE n f self round 0#128 = 0) :
    Calls Try.prog 11 #[.int .i64 n, .int .i64 f, .int .i64 self, .int .i64 round, .agg #[.int .u32 0, .int .u32 0, .int .u32 0, .int .u32 0]] W fun e W' =>
      ∃ B, e = .returned (.tuple #[.pointer (some ⟨B, 0, none⟩), .int .i64 0]) ∧ One (fun _ => False) w0 W' B (newT n f self round 0#128) ∧ Below W.heap.size W W' := by
  rw [← zeroS]; exact New_one hb h
theorem New_duoZ {n f self round : Int} {w0 W : World} {B : Nat} {t : Tl} (h1 : One (fun _ => False) w0 W B t) (h : newE n f self round 0#128 = 0) :
    Calls Try.prog 11 #[.int .i64 n, .int .i64 f, .int .i64 self, .int .i64 round, .agg #[.int .u32 0, .int .u32 0, .int .u32 0, .int .u32 0]] W fun e W' =>
      ∃ C, e = .returned (.tuple #[.pointer (some ⟨C, 0, none⟩), .int .i64 0]) ∧ Duo w0 W' B C t (newT n f self round 0#128) := by
  rw [← zeroS]; exact New_duo h1 h
theorem Take_duoZ {w0 W : World} {B C : Nat} {t u : Tl} {r : Rl} {from_ round v1 v2 : Int} (h : Duo w0 W B C t u) (hr : Rel t r) (hv : takeRV r from_ round 0#128 = (v1, v2)) :
    Calls Try.prog 13 #[.pointer (some ⟨B, 0, none⟩), .int .i64 from_, .int .i64 round, .agg #[.int .u32 0, .int .u32 0, .int .u32 0, .int .u32 0]] W fun e W' =>
      e = .returned (.tuple #[.int .i64 v1, .int .i64 v2]) ∧ ∃ t', Rel t' (takeRT r from_ round 0#128) ∧ Duo w0 W' B C t' u := by
  rw [← zeroS]; exact Take_duo h hr hv
theorem Ready_d {w0 W : World} {B C : Nat} {t u : Tl} {r : Rl} (h : Duo w0 W B C t u) (hr : Rel t r) : Calls Try.prog 20 #[.pointer (some ⟨B, 0, none⟩)] W fun e w' => e = .returned (.bool (readyR r)) ∧ Below W.heap.size W w' := by
  obtain ⟨base, cap, hu, h1⟩ := h.ex
  obtain ⟨base', cap', ht, -⟩ := h1.ex
  exact Ready_r ht hr
theorem Repliers_d {w0 W : World} {B C : Nat} {t u : Tl} {r : Rl} {v : BitVec 128} (h : Duo w0 W B C t u) (hr : Rel t r) (hv : whoV r.who = v) : Calls Try.prog 15 #[.pointer (some ⟨B, 0, none⟩)] W fun e w' => e = .returned (.agg #[.int .u32 (Ear.wd (v) 0), .int .u32 (Ear.wd (v) 1), .int .u32 (Ear.wd (v) 2), .int .u32 (Ear.wd (v) 3)]) ∧ Below W.heap.size W w' := by
  subst hv
  obtain ⟨base, cap, hu, h1⟩ := h.ex
  obtain ⟨base', cap', ht, -⟩ := h1.ex
  exact Repliers_r ht hr
theorem Ready_dE {w0 W : World} {B C : Nat} {t u : Tl} {r : Rl} {b : Bool} (h : Duo w0 W B C t u) (hr : Rel t r) (hb : readyR r = b) : Calls Try.prog 20 #[.pointer (some ⟨B, 0, none⟩)] W fun e w' => e = .returned (.bool b) ∧ Below W.heap.size W w' := by
  subst hb; exact Ready_d h hr
theorem ids_le (v : BitVec 128) : (ids v).length ≤ 100 := idsTo_len v 100
theorem ids_in {r : Rl} (h : InN r) (hn : r.n ≤ 100) : ∀ x ∈ ids (whoV r.who), 0 ≤ x ∧ x < r.n := fun x hx =>
  h x ((mem_ids r.who (fun y hy => by have := h y hy; omega) x).1 hx)
theorem Ids_L {v : BitVec 128} {L : List Int} (h : ids v = L) (w : World) : Calls Try.prog 24 #[.agg #[.int .u32 (Ear.wd (v) 0), .int .u32 (Ear.wd (v) 1), .int .u32 (Ear.wd (v) 2), .int .u32 (Ear.wd (v) 3)]] w fun e w' =>
    ∃ base cap, e = .returned (.slice base L.length cap) ∧ w'.ownsRow w.heap.size 3 1 (.slice base L.length cap) L.length (intsV L) ∧ Below w.heap.size w w' := by
  subst h; exact Ids_calls v w
theorem Of_eqN {l : List Int} {v : BitVec 128} {n : Nat} (h : okL l) (hv : ofL l = v) (hn' : l.length = n) (base : Option Addr) (cap : Nat) (w : World) (hn : n ≤ 5000) (hl : LiesV (intsV l) base w) :
    Calls Try.prog 25 #[.slice base n cap] w fun e w' => e = .returned (.tuple #[.agg #[.int .u32 (Ear.wd (v) 0), .int .u32 (Ear.wd (v) 1), .int .u32 (Ear.wd (v) 2), .int .u32 (Ear.wd (v) 3)], .int .i64 0]) ∧ Below w.heap.size w w' := by
  subst hn'; exact Of_eq h hv base cap w hn hl.lies
attribute [local irreducible] Ear.wd Ear.one Ear.clean withV withE hasV whoV newE newT takeRV takeRT takeT runZ ids ofL
attribute [local go_sem] eqNilP eqNilN eqSet
set_option maxRecDepth 100000 in
set_option maxHeartbeats 16000000 in
theorem Named_bad (n f self round : Int) (l : List Rp) (lb : Option Addr) (lc : Nat) (w : World) (h : newE n f self round 0#128 ≠ 0) :
    Calls Try.prog 9 #[.int .i64 n, .int .i64 f, .int .i64 self, .int .i64 round, .slice lb l.length lc] w fun e w' => e = .returned (.bool true) ∧ Below w.heap.size w w' := by
  obtain ⟨c, hc⟩ : ∃ c, newE n f self round 0#128 = c := ⟨_, rfl⟩
  have HE := Lib.hid hc
  rw [hc] at h
  have HC := Lib.hid h
  have e3 : (c != 0) = true := by rw [bne_iff_ne]; exact h
  clear hc h
  go_enter Try.func9, Try.ntmps9
  go_wp2_with (first | (go_at_call 11; (with_reducible refine Calls.mono (New_badZ _ HE.out HC.out) ?_); rintro e w1 ⟨rfl, hb1⟩; have hB' : Below w.heap.size w w1 := Below.trans (by (repeat' (first | (with_reducible exact Below.refl _ _) | (with_reducible assumption) | (show Below 0 _ _; with_reducible refine Below.mono (by assumption) (Nat.zero_le _)) | (with_reducible refine below_setRow ?_ ?_ _) | (with_reducible refine Below.alloc ?_ ?_ _) | (with_reducible refine Below.drew ?_) | (with_reducible refine Below.setCell ?_ ?_ _) | (with_reducible refine Below.frame ?_ _) | (with_reducible exact Nat.le_refl _) | omega | (simp only [World.size_alloc, World.size_setCell, World.size_drew, setRow_size]; omega) | (simp; omega) | (simp; done)))) (hb1.mono (by (try simp only [World.size_alloc, World.size_setCell, World.size_drew, setRow_size]); omega)); clear hb1; (try clear hB hs); have hB := hB'; clear hB'; have hs := hB.size) | (go_at_call 12; (with_reducible refine Calls.mono (alive_calls _) ?_); rintro e w3 ⟨rfl, hb3⟩; have hB' : Below w.heap.size w w3 := Below.trans (by (repeat' (first | (with_reducible exact Below.refl _ _) | (with_reducible assumption) | (show Below 0 _ _; with_reducible refine Below.mono (by assumption) (Nat.zero_le _)) | (with_reducible refine below_setRow ?_ ?_ _) | (with_reducible refine Below.alloc ?_ ?_ _) | (with_reducible refine Below.drew ?_) | (with_reducible refine Below.setCell ?_ ?_ _) | (with_reducible refine Below.frame ?_ _) | (with_reducible exact Nat.le_refl _) | omega | (simp only [World.size_alloc, World.size_setCell, World.size_drew, setRow_size]; omega) | (simp; omega) | (simp; done)))) (hb3.mono (by (try simp only [World.size_alloc, World.size_setCell, World.size_drew, setRow_size]); omega)); clear hb3; (try clear hB hs); have hB := hB'; clear hB'; have hs := hB.size))
  go_ret
  exact ⟨rfl, hB⟩
set_option maxRecDepth 100000 in
set_option maxHeartbeats 16000000 in
theorem Named_long (n f self round : Int) (l : List Rp) (lb : Option Addr) (lc : Nat) (w : World) (h : newE n f self round 0#128 = 0) (hl : 300 < l.length) :
    Calls Try.prog 9 #[.int .i64 n, .int .i64 f, .int .i64 self, .int .i64 round, .slice lb l.length lc] w fun e w' => e = .returned (.bool true) ∧ Below w.heap.size w w' := by
  have HE := Lib.hid h
  clear h
  go_enter Try.func9, Try.ntmps9
  go_wp2_with (first | (go_at_call 11; (with_reducible refine Calls.mono (New_oneZ (w0 := w) (by (repeat' (first | (with_reducible exact Below.refl _ _) | (with_reducible assumption) | (show Below 0 _ _; with_reducible refine Below.mono (by assumption) (Nat.zero_le _)) | (with_reducible refine below_setRow ?_ ?_ _) | (with_reducible refine Below.alloc ?_ ?_ _) | (with_reducible refine Below.drew ?_) | (with_reducible refine Below.setCell ?_ ?_ _) | (with_reducible refine Below.frame ?_ _) | (with_reducible exact Nat.le_refl _) | omega | (simp only [World.size_alloc, World.size_setCell, World.size_drew, setRow_size]; omega) | (simp; omega) | (simp; done)))) HE.out) ?_); rintro e w1 ⟨B, rfl, -, hb1⟩; have hB' : Below w.heap.size w w1 := Below.trans (by (repeat' (first | (with_reducible exact Below.refl _ _) | (with_reducible assumption) | (show Below 0 _ _; with_reducible refine Below.mono (by assumption) (Nat.zero_le _)) | (with_reducible refine below_setRow ?_ ?_ _) | (with_reducible refine Below.alloc ?_ ?_ _) | (with_reducible refine Below.drew ?_) | (with_reducible refine Below.setCell ?_ ?_ _) | (with_reducible refine Below.frame ?_ _) | (with_reducible exact Nat.le_refl _) | omega | (simp only [World.size_alloc, World.size_setCell, World.size_drew, setRow_size]; omega) | (simp; omega) | (simp; done)))) (hb1.mono (by (try simp only [World.size_alloc, World.size_setCell, World.size_drew, setRow_size]); omega)); clear hb1; (try clear hB hs); have hB := hB'; clear hB'; have hs := hB.size) | (go_at_call 12; (with_reducible refine Calls.mono (alive_calls _) ?_); rintro e w3 ⟨rfl, hb3⟩; have hB' : Below w.heap.size w w3 := Below.trans (by (repeat' (first | (with_reducible exact Below.refl _ _) | (with_reducible assumption) | (show Below 0 _ _; with_reducible refine Below.mono (by assumption) (Nat.zero_le _)) | (with_reducible refine below_setRow ?_ ?_ _) | (with_reducible refine Below.alloc ?_ ?_ _) | (with_reducible refine Below.drew ?_) | (with_reducible refine Below.setCell ?_ ?_ _) | (with_reducible refine Below.frame ?_ _) | (with_reducible exact Nat.le_refl _) | omega | (simp only [World.size_alloc, World.size_setCell, World.size_drew, setRow_size]; omega) | (simp; omega) | (simp; done)))) (hb3.mono (by (try simp only [World.size_alloc, World.size_setCell, World.size_drew, setRow_size]); omega)); clear hb3; (try clear hB hs); have hB := hB'; clear hB'; have hs := hB.size))
  go_ret
  exact ⟨rfl, hB⟩
theorem newE_ok {n f self round : Int} {own : BitVec 128} (h : newE n f self round own = 0) : 1 ≤ n ∧ n ≤ 100 ∧ 0 ≤ f ∧ f < n ∧ 0 ≤ self ∧ self < n := by
  unfold newE at h
  split at h
  · simp at h
  · rename_i h1
    split at h
    · simp at h
    · rename_i h2
      omega
set_option maxRecDepth 100000 in
set_option maxHeartbeats 16000000 in
theorem Named_good (n f self round : Int) (l : List Rp) (lb : Option Addr) (lc : Nat) (w : World) (h : newE n f self round 0#128 = 0) (hl : l.length ≤ 300) (hL : LiesR l lb w) :
    Calls Try.prog 9 #[.int .i64 n, .int .i64 f, .int .i64 self, .int .i64 round, .slice lb l.length lc] w fun e w' => e = .returned (.bool true) ∧ Below w.heap.size w w' := by
  have HE := Lib.hid h
  have HE2 := Lib.hid (new_rot h)
  have HL := Lib.hid hL
  have hrel0 := rel_new h
  have hrel1 := rel_new (new_rot h)
  obtain ⟨g1, g2, g3, g4, g5, g6⟩ := newE_ok h
  obtain ⟨T0, hT0⟩ : ∃ T0, newT n f self round 0#128 = T0 := ⟨_, rfl⟩
  obtain ⟨U0, hU0⟩ : ∃ U0, newT n f (rotI n self) round 0#128 = U0 := ⟨_, rfl⟩
  obtain ⟨R0, hR0⟩ : ∃ R0 : Rl, R0 = ⟨n, f, round, [self], [0#128]⟩ := ⟨_, rfl⟩
  have hrn : R0.n = n := by rw [hR0]
  have hin : InN R0 := by rw [hR0]; intro x hx; simp only [List.mem_singleton] at hx; subst hx; exact ⟨g5, g6⟩
  have HT0 := Lib.hid hT0
  have HU0 := Lib.hid hU0
  have HRN := Lib.hid hrn
  have HIN := Lib.hid hin
  rw [hT0, ← hR0] at hrel0
  rw [hU0, show (⟨n, f, round, [rotI n self], [0#128]⟩ : Rl) = rotR R0 from by rw [hR0]; rfl] at hrel1
  have REL0 := Lib.hid hrel0
  have REL1 := Lib.hid hrel1
  have hn0 : n ≠ 0 := by omega
  have hn0' : (n == 0) = false := beq_eq_false_iff_ne.2 hn0
  have HROT : rotI n self = (self + 1) % n := rfl
  rw [HROT] at HE2 HU0
  clear HROT
  clear h hL hT0 hU0 hR0 hrn hin hrel0 hrel1
  go_enter Try.func9, Try.ntmps9
  go_wp2_with (first | (go_at_call 11; (with_reducible refine Calls.mono (New_oneZ (w0 := w) (by (repeat' (first | (with_reducible exact Below.refl _ _) | (with_reducible assumption) | (show Below 0 _ _; with_reducible refine Below.mono (by assumption) (Nat.zero_le _)) | (with_reducible refine below_setRow ?_ ?_ _) | (with_reducible refine Below.alloc ?_ ?_ _) | (with_reducible refine Below.drew ?_) | (with_reducible refine Below.setCell ?_ ?_ _) | (with_reducible refine Below.frame ?_ _) | (with_reducible exact Nat.le_refl _) | omega | (simp only [World.size_alloc, World.size_setCell, World.size_drew, setRow_size]; omega) | (simp; omega) | (simp; done)))) HE.out) ?_); rintro e w1 ⟨B, rfl, hone, -⟩; rw [HT0.out] at hone; have H0 := Lib.hid hone; clear hone) | (go_at_call 11; (with_reducible refine Calls.mono (New_duoZ H0.out HE2.out) ?_); rintro e w2 ⟨C, rfl, hduo⟩; rw [HU0.out] at hduo; have HD := Lib.hid hduo; clear hduo H0))
  generalize decide (300 < (l.length : Int)) = bz
  go_loopw [15, 16, 17, 18, 19] (fun i _ _ _ _ wr => ∃ (k : Nat) (T U : Tl), k ≤ l.length ∧ i = .int .i64 k ∧ Hid (Rel T (runZ R0 (l.take k))) ∧ Hid (Rel U (rotR (runZ R0 (l.take k)))) ∧ Hid (Duo w wr B C T U)) (fun i _ _ _ _ _ => l.length - (intOf i).toNat)
  case atStart =>
    have hz : runZ R0 (l.take 0) = R0 := by rw [List.take_zero]; unfold runZ; rfl
    refine ⟨0, T0, U0, by omega, rfl, ?_, ?_, HD⟩
    · rw [hz]; exact REL0
    · rw [hz]; exact REL1
  case round =>
    clear HD
    obtain ⟨k, T, U, hkn, rfl, RT, RU, H⟩ := hrel
    have HZN := Lib.hid ((runZ_n R0 (l.take k)).trans HRN.out)
    have HZI := Lib.hid (runZ_in HIN.out (l.take k))
    by_cases hlt : k < l.length
    · have HRK := Lib.hid (runZ_succ R0 l k hlt)
      obtain ⟨Bl, o, rfl, hat⟩ := HL.out.gets k hlt
      obtain ⟨x, hx⟩ : ∃ x, l[k] = x := ⟨_, rfl⟩
      rw [hx] at HRK hat
      obtain ⟨xf, xr, xh⟩ := x
      dsimp only at HRK hat
      have HAT := Lib.hid hat
      have HW := Lib.hid (wrap_lt k l.length hlt (by omega))
      obtain ⟨Rr, hRr⟩ : ∃ Rr, runZ R0 (l.take k) = Rr := ⟨_, rfl⟩
      rw [hRr] at RT RU HZN HZI HRK
      obtain ⟨a_l, a0, a1, a2, a3, a4, a5⟩ := hat.below H.out.below
      clear hx hRr hat a2 a3 a4 a5
      by_cases hfar : xf < 0 ∨ n ≤ xf
      · have HS : Hid (takeRT Rr xf xr 0#128 = Rr) := take_far (by rw [HZN.out]; exact hfar)
        have hfar' : xf < 0 ∨ (0 ≤ xf ∧ n ≤ xf) := by omega
        clear hfar
        rcases hfar' with hf | ⟨hf, hf'⟩
        all_goals
          go_wp2
          go_roundw
          case rel =>
            refine ⟨k + 1, T, U, hlt, by go_num, ?_, ?_, H⟩
            · rw [HRK.out, HS.out]; exact RT
            · rw [HRK.out, HS.out]; exact RU
          case measure => simp [intOf]; omega
      · have hf0 : 0 ≤ xf := by omega
        have hf1 : xf < n := by omega
        clear hfar
        obtain ⟨⟨v1, v2⟩, hv⟩ : ∃ v, takeRV Rr xf xr 0#128 = v := ⟨_, rfl⟩
        have HV := Lib.hid hv
        have hv2 := rot_takeV HZI.out (f := xf) (rd := xr) (v := 0#128) hf0 (by rw [HZN.out]; exact hf1)
        rw [hv, HZN.out, show rotI n xf = (xf + 1) % n from rfl] at hv2
        have HV2 := Lib.hid hv2
        have ht2 := rot_takeT HZI.out (f := xf) (rd := xr) (v := 0#128) hf0 (by rw [HZN.out]; exact hf1)
        rw [HZN.out, show rotI n xf = (xf + 1) % n from rfl] at ht2
        have HTT := Lib.hid ht2
        have ev1 : (v1 != v1) = false := bne_self_eq_false _
        clear hv hv2 ht2
        go_wp2
        go_cut [16, 17] from 77 to 92 (fun v h wx => v = .int .i64 v1 ∧ h = .int .i64 v2 ∧ ∃ T', Hid (Rel T' (takeRT Rr xf xr 0#128)) ∧ Hid (Duo w wx B C T' U))
        case first =>
          rename_i J K' hJ hK'
          refine Ear.Pl.C2.wp_region_qrb 12 #[true, true, true, true, true, true, true, true, true, true, true, true, false, false, false, false, false, false] (by kernel_rfl) (by kernel_rfl) (fun C hC1 hC2 => ?_); simp only [List.take_succ_cons, List.take_zero, List.drop_succ_cons, List.drop_zero]
          (iterate 12 (refine Ear.Pl.wpQ_run (by rfl) ?_; apply Exists.intro; refine ⟨fun K Q hK w' hw' => ?_, ?_⟩; (focus (obtain ⟨hc', hf'⟩ := Ear.bcell (hC1.out w' hw'); simp only [Act.put, List.setIfInBounds_toArray, List.set_cons_succ, List.set_cons_zero] at hK; go_wp2; exact hw')); simp only [Act.put, List.setIfInBounds_toArray, List.set_cons_succ, List.set_cons_zero]))
          refine Ear.Pl.wpQ_nil ?_
          intro w5 hb5
          clear hC1 hC2
          have H5 := Lib.hid (H.out.call (((Below.refl _ _).drew).trans hb5))
          clear hb5
          refine wpAny_ready (rs := [12]) (by kernel_rfl) (by simp) ?_; refine AllReady.cons rfl (fun K hK => ?_) ?_; (focus ((go_simp); (first | (refine hK _ _ ?_; clear hK K) | (go_wp2_with ((go_at_call 13; (with_reducible refine Calls.mono (Take_duoZ H5.out RT.out HV.out) ?_); rintro e w6 ⟨rfl, T6, hr6, hT6⟩; have HT6 := Lib.hid hT6; have HR6 := Lib.hid hr6; clear hT6 hr6)); first | (show wpAny _ _ _ _ _ _ _ _; skip) | (refine hK _ _ ?_); (try clear hK K))); refine wpAny_ready (rs := [13]) (by kernel_rfl) (by simp) ?_; refine AllReady.cons rfl (fun K hK => ?_) ?_; (focus ((go_simp); (first | (refine hK _ _ ?_; clear hK K) | (go_wp2_with ((go_at_call 13; (with_reducible refine Calls.mono (Take_duoZ H5.out RT.out HV.out) ?_); rintro e w6 ⟨rfl, T6, hr6, hT6⟩; have HT6 := Lib.hid hT6; have HR6 := Lib.hid hr6; clear hT6 hr6)); first | (show wpAny _ _ _ _ _ _ _ _; skip) | (refine hK _ _ ?_); (try clear hK K))); refine wpAny_ready (rs := [14,15]) (by kernel_rfl) (by simp) ?_; refine AllReady.cons rfl (fun K hK => ?_) ?_; (focus ((go_simp); (first | (refine hK _ _ ?_; clear hK K) | (go_wp2_with ((go_at_call 13; (with_reducible refine Calls.mono (Take_duoZ H5.out RT.out HV.out) ?_); rintro e w6 ⟨rfl, T6, hr6, hT6⟩; have HT6 := Lib.hid hT6; have HR6 := Lib.hid hr6; clear hT6 hr6)); first | (show wpAny _ _ _ _ _ _ _ _; skip) | (refine hK _ _ ?_); (try clear hK K))); refine wpAny_ready (rs := [15,16]) (by kernel_rfl) (by simp) ?_; refine AllReady.cons rfl (fun K hK => ?_) ?_; (focus ((go_simp); (first | (refine hK _ _ ?_; clear hK K) | (go_wp2_with ((go_at_call 13; (with_reducible refine Calls.mono (Take_duoZ H5.out RT.out HV.out) ?_); rintro e w6 ⟨rfl, T6, hr6, hT6⟩; have HT6 := Lib.hid hT6; have HR6 := Lib.hid hr6; clear hT6 hr6)); first | (show wpAny _ _ _ _ _ _ _ _; skip) | (refine hK _ _ ?_); (try clear hK K))); refine wpAny_ready (rs := [16]) (by kernel_rfl) (by simp) ?_; refine AllReady.cons rfl (fun K hK => ?_) ?_; (focus ((go_simp); (first | (refine hK _ _ ?_; clear hK K) | (go_wp2_with ((go_at_call 13; (with_reducible refine Calls.mono (Take_duoZ H5.out RT.out HV.out) ?_); rintro e w6 ⟨rfl, T6, hr6, hT6⟩; have HT6 := Lib.hid hT6; have HR6 := Lib.hid hr6; clear hT6 hr6)); first | (show wpAny _ _ _ _ _ _ _ _; skip) | (refine hK _ _ ?_); (try clear hK K))); refine wpAny_ready (rs := [17]) (by kernel_rfl) (by simp) ?_; refine AllReady.cons rfl (fun K hK => ?_) ?_; (focus ((go_simp); (first | (refine hK _ _ ?_; clear hK K) | (go_wp2_with ((go_at_call 13; (with_reducible refine Calls.mono (Take_duoZ H5.out RT.out HV.out) ?_); rintro e w6 ⟨rfl, T6, hr6, hT6⟩; have HT6 := Lib.hid hT6; have HR6 := Lib.hid hr6; clear hT6 hr6)); first | (show wpAny _ _ _ _ _ _ _ _; skip) | (refine hK _ _ ?_); (try clear hK K))); refine wpAny_done (by kernel_rfl) ?_ _; (try dsimp only [Act.put, List.setIfInBounds_toArray, List.set_cons_succ, List.set_cons_zero]); (refine hK' _ _ (Met.intro (hJ _ _ ?_)); (repeat apply Exists.intro); refine ⟨?_, rfl⟩; exact ⟨rfl, rfl, T6, HR6, HT6⟩))); exact AllReady.nil)); exact AllReady.nil)); refine AllReady.cons rfl (fun K hK => ?_) ?_; (focus ((go_simp); (first | (refine hK _ _ ?_; clear hK K) | (go_wp2_with ((go_at_call 13; (with_reducible refine Calls.mono (Take_duoZ H5.out RT.out HV.out) ?_); rintro e w6 ⟨rfl, T6, hr6, hT6⟩; have HT6 := Lib.hid hT6; have HR6 := Lib.hid hr6; clear hT6 hr6)); first | (show wpAny _ _ _ _ _ _ _ _; skip) | (refine hK _ _ ?_); (try clear hK K))); refine wpAny_ready (rs := [15]) (by kernel_rfl) (by simp) ?_; refine AllReady.cons rfl (fun K hK => ?_) ?_; (focus ((go_simp); (first | (refine hK _ _ ?_; clear hK K) | (go_wp2_with ((go_at_call 13; (with_reducible refine Calls.mono (Take_duoZ H5.out RT.out HV.out) ?_); rintro e w6 ⟨rfl, T6, hr6, hT6⟩; have HT6 := Lib.hid hT6; have HR6 := Lib.hid hr6; clear hT6 hr6)); first | (show wpAny _ _ _ _ _ _ _ _; skip) | (refine hK _ _ ?_); (try clear hK K))); refine wpAny_ready (rs := [17]) (by kernel_rfl) (by simp) ?_; refine AllReady.cons rfl (fun K hK => ?_) ?_; (focus ((go_simp); (first | (refine hK _ _ ?_; clear hK K) | (go_wp2_with ((go_at_call 13; (with_reducible refine Calls.mono (Take_duoZ H5.out RT.out HV.out) ?_); rintro e w6 ⟨rfl, T6, hr6, hT6⟩; have HT6 := Lib.hid hT6; have HR6 := Lib.hid hr6; clear hT6 hr6)); first | (show wpAny _ _ _ _ _ _ _ _; skip) | (refine hK _ _ ?_); (try clear hK K))); refine wpAny_done (by kernel_rfl) ?_ _; (try dsimp only [Act.put, List.setIfInBounds_toArray, List.set_cons_succ, List.set_cons_zero]); (refine hK' _ _ (Met.intro (hJ _ _ ?_)); (repeat apply Exists.intro); refine ⟨?_, rfl⟩; exact ⟨rfl, rfl, T6, HR6, HT6⟩))); exact AllReady.nil)); exact AllReady.nil)); exact AllReady.nil)); refine AllReady.cons rfl (fun K hK => ?_) ?_; (focus ((go_simp); (first | (refine hK _ _ ?_; clear hK K) | (go_wp2_with ((go_at_call 13; (with_reducible refine Calls.mono (Take_duoZ H5.out RT.out HV.out) ?_); rintro e w6 ⟨rfl, T6, hr6, hT6⟩; have HT6 := Lib.hid hT6; have HR6 := Lib.hid hr6; clear hT6 hr6)); first | (show wpAny _ _ _ _ _ _ _ _; skip) | (refine hK _ _ ?_); (try clear hK K))); refine wpAny_ready (rs := [14]) (by kernel_rfl) (by simp) ?_; refine AllReady.cons rfl (fun K hK => ?_) ?_; (focus ((go_simp); (first | (refine hK _ _ ?_; clear hK K) | (go_wp2_with ((go_at_call 13; (with_reducible refine Calls.mono (Take_duoZ H5.out RT.out HV.out) ?_); rintro e w6 ⟨rfl, T6, hr6, hT6⟩; have HT6 := Lib.hid hT6; have HR6 := Lib.hid hr6; clear hT6 hr6)); first | (show wpAny _ _ _ _ _ _ _ _; skip) | (refine hK _ _ ?_); (try clear hK K))); refine wpAny_ready (rs := [16]) (by kernel_rfl) (by simp) ?_; refine AllReady.cons rfl (fun K hK => ?_) ?_; (focus ((go_simp); (first | (refine hK _ _ ?_; clear hK K) | (go_wp2_with ((go_at_call 13; (with_reducible refine Calls.mono (Take_duoZ H5.out RT.out HV.out) ?_); rintro e w6 ⟨rfl, T6, hr6, hT6⟩; have HT6 := Lib.hid hT6; have HR6 := Lib.hid hr6; clear hT6 hr6)); first | (show wpAny _ _ _ _ _ _ _ _; skip) | (refine hK _ _ ?_); (try clear hK K))); refine wpAny_ready (rs := [17]) (by kernel_rfl) (by simp) ?_; refine AllReady.cons rfl (fun K hK => ?_) ?_; (focus ((go_simp); (first | (refine hK _ _ ?_; clear hK K) | (go_wp2_with ((go_at_call 13; (with_reducible refine Calls.mono (Take_duoZ H5.out RT.out HV.out) ?_); rintro e w6 ⟨rfl, T6, hr6, hT6⟩; have HT6 := Lib.hid hT6; have HR6 := Lib.hid hr6; clear hT6 hr6)); first | (show wpAny _ _ _ _ _ _ _ _; skip) | (refine hK _ _ ?_); (try clear hK K))); refine wpAny_done (by kernel_rfl) ?_ _; (try dsimp only [Act.put, List.setIfInBounds_toArray, List.set_cons_succ, List.set_cons_zero]); (refine hK' _ _ (Met.intro (hJ _ _ ?_)); (repeat apply Exists.intro); refine ⟨?_, rfl⟩; exact ⟨rfl, rfl, T6, HR6, HT6⟩))); exact AllReady.nil)); exact AllReady.nil)); exact AllReady.nil)); exact AllReady.nil)); exact AllReady.nil)); exact AllReady.nil
        case rest =>
          obtain ⟨rfl, rfl, T', RT', H⟩ := hcut
          clear a_l a0 a1
          obtain ⟨a_l, a0, a1, -, -, -, -⟩ := HAT.out.below H.out.below
          go_wp2
          go_cut [18, 19] from 93 to 111 (fun v h wx => v = .int .i64 v1 ∧ h = .int .i64 v2 ∧ ∃ U', Hid (Rel U' (rotR (takeRT Rr xf xr 0#128))) ∧ Hid (Duo w wx B C T' U'))
          case first =>
            rename_i J K' hJ hK'
            refine Ear.Pl.C2.wp_region_qrb 15 #[true, true, true, true, true, true, true, true, true, true, true, true, true, true, true, false, false, false, false, false, false] (by kernel_rfl) (by kernel_rfl) (fun C hC1 hC2 => ?_); simp only [List.take_succ_cons, List.take_zero, List.drop_succ_cons, List.drop_zero]
            (iterate 15 (refine Ear.Pl.wpQ_run (by rfl) ?_; apply Exists.intro; refine ⟨fun K Q hK w' hw' => ?_, ?_⟩; (focus (obtain ⟨hc', hf'⟩ := Ear.bcell (hC1.out w' hw'); simp only [Act.put, List.setIfInBounds_toArray, List.set_cons_succ, List.set_cons_zero] at hK; go_wp2; exact hw')); simp only [Act.put, List.setIfInBounds_toArray, List.set_cons_succ, List.set_cons_zero]))
            refine Ear.Pl.wpQ_nil ?_
            intro w5 hb5
            clear hC1 hC2
            have H5 := Lib.hid (H.out.call (((Below.refl _ _).drew).trans hb5))
            clear hb5
            refine wpAny_ready (rs := [15]) (by kernel_rfl) (by simp) ?_; refine AllReady.cons rfl (fun K hK => ?_) ?_; (focus ((go_simp); (first | (refine hK _ _ ?_; clear hK K) | (go_wp2_with ((go_at_call 13; (with_reducible refine Calls.mono (Take_duoZ H5.out.symm RU.out HV2.out) ?_); rintro e w6 ⟨rfl, T6, hr6, hT6⟩; rw [HTT.out] at hr6; have HT6 := Lib.hid hT6.symm; have HR6 := Lib.hid hr6; clear hT6 hr6)); first | (show wpAny _ _ _ _ _ _ _ _; skip) | (refine hK _ _ ?_); (try clear hK K))); refine wpAny_ready (rs := [16]) (by kernel_rfl) (by simp) ?_; refine AllReady.cons rfl (fun K hK => ?_) ?_; (focus ((go_simp); (first | (refine hK _ _ ?_; clear hK K) | (go_wp2_with ((go_at_call 13; (with_reducible refine Calls.mono (Take_duoZ H5.out.symm RU.out HV2.out) ?_); rintro e w6 ⟨rfl, T6, hr6, hT6⟩; rw [HTT.out] at hr6; have HT6 := Lib.hid hT6.symm; have HR6 := Lib.hid hr6; clear hT6 hr6)); first | (show wpAny _ _ _ _ _ _ _ _; skip) | (refine hK _ _ ?_); (try clear hK K))); refine wpAny_ready (rs := [17,18]) (by kernel_rfl) (by simp) ?_; refine AllReady.cons rfl (fun K hK => ?_) ?_; (focus ((go_simp); (first | (refine hK _ _ ?_; clear hK K) | (go_wp2_with ((go_at_call 13; (with_reducible refine Calls.mono (Take_duoZ H5.out.symm RU.out HV2.out) ?_); rintro e w6 ⟨rfl, T6, hr6, hT6⟩; rw [HTT.out] at hr6; have HT6 := Lib.hid hT6.symm; have HR6 := Lib.hid hr6; clear hT6 hr6)); first | (show wpAny _ _ _ _ _ _ _ _; skip) | (refine hK _ _ ?_); (try clear hK K))); refine wpAny_ready (rs := [18,19]) (by kernel_rfl) (by simp) ?_; refine AllReady.cons rfl (fun K hK => ?_) ?_; (focus ((go_simp); (first | (refine hK _ _ ?_; clear hK K) | (go_wp2_with ((go_at_call 13; (with_reducible refine Calls.mono (Take_duoZ H5.out.symm RU.out HV2.out) ?_); rintro e w6 ⟨rfl, T6, hr6, hT6⟩; rw [HTT.out] at hr6; have HT6 := Lib.hid hT6.symm; have HR6 := Lib.hid hr6; clear hT6 hr6)); first | (show wpAny _ _ _ _ _ _ _ _; skip) | (refine hK _ _ ?_); (try clear hK K))); refine wpAny_ready (rs := [19]) (by kernel_rfl) (by simp) ?_; refine AllReady.cons rfl (fun K hK => ?_) ?_; (focus ((go_simp); (first | (refine hK _ _ ?_; clear hK K) | (go_wp2_with ((go_at_call 13; (with_reducible refine Calls.mono (Take_duoZ H5.out.symm RU.out HV2.out) ?_); rintro e w6 ⟨rfl, T6, hr6, hT6⟩; rw [HTT.out] at hr6; have HT6 := Lib.hid hT6.symm; have HR6 := Lib.hid hr6; clear hT6 hr6)); first | (show wpAny _ _ _ _ _ _ _ _; skip) | (refine hK _ _ ?_); (try clear hK K))); refine wpAny_ready (rs := [20]) (by kernel_rfl) (by simp) ?_; refine AllReady.cons rfl (fun K hK => ?_) ?_; (focus ((go_simp); (first | (refine hK _ _ ?_; clear hK K) | (go_wp2_with ((go_at_call 13; (with_reducible refine Calls.mono (Take_duoZ H5.out.symm RU.out HV2.out) ?_); rintro e w6 ⟨rfl, T6, hr6, hT6⟩; rw [HTT.out] at hr6; have HT6 := Lib.hid hT6.symm; have HR6 := Lib.hid hr6; clear hT6 hr6)); first | (show wpAny _ _ _ _ _ _ _ _; skip) | (refine hK _ _ ?_); (try clear hK K))); refine wpAny_done (by kernel_rfl) ?_ _; (try dsimp only [Act.put, List.setIfInBounds_toArray, List.set_cons_succ, List.set_cons_zero]); (refine hK' _ _ (Met.intro (hJ _ _ ?_)); (repeat apply Exists.intro); refine ⟨?_, rfl⟩; exact ⟨rfl, rfl, T6, HR6, HT6⟩))); exact AllReady.nil)); exact AllReady.nil)); refine AllReady.cons rfl (fun K hK => ?_) ?_; (focus ((go_simp); (first | (refine hK _ _ ?_; clear hK K) | (go_wp2_with ((go_at_call 13; (with_reducible refine Calls.mono (Take_duoZ H5.out.symm RU.out HV2.out) ?_); rintro e w6 ⟨rfl, T6, hr6, hT6⟩; rw [HTT.out] at hr6; have HT6 := Lib.hid hT6.symm; have HR6 := Lib.hid hr6; clear hT6 hr6)); first | (show wpAny _ _ _ _ _ _ _ _; skip) | (refine hK _ _ ?_); (try clear hK K))); refine wpAny_ready (rs := [18]) (by kernel_rfl) (by simp) ?_; refine AllReady.cons rfl (fun K hK => ?_) ?_; (focus ((go_simp); (first | (refine hK _ _ ?_; clear hK K) | (go_wp2_with ((go_at_call 13; (with_reducible refine Calls.mono (Take_duoZ H5.out.symm RU.out HV2.out) ?_); rintro e w6 ⟨rfl, T6, hr6, hT6⟩; rw [HTT.out] at hr6; have HT6 := Lib.hid hT6.symm; have HR6 := Lib.hid hr6; clear hT6 hr6)); first | (show wpAny _ _ _ _ _ _ _ _; skip) | (refine hK _ _ ?_); (try clear hK K))); refine wpAny_ready (rs := [20]) (by kernel_rfl) (by simp) ?_; refine AllReady.cons rfl (fun K hK => ?_) ?_; (focus ((go_simp); (first | (refine hK _ _ ?_; clear hK K) | (go_wp2_with ((go_at_call 13; (with_reducible refine Calls.mono (Take_duoZ H5.out.symm RU.out HV2.out) ?_); rintro e w6 ⟨rfl, T6, hr6, hT6⟩; rw [HTT.out] at hr6; have HT6 := Lib.hid hT6.symm; have HR6 := Lib.hid hr6; clear hT6 hr6)); first | (show wpAny _ _ _ _ _ _ _ _; skip) | (refine hK _ _ ?_); (try clear hK K))); refine wpAny_done (by kernel_rfl) ?_ _; (try dsimp only [Act.put, List.setIfInBounds_toArray, List.set_cons_succ, List.set_cons_zero]); (refine hK' _ _ (Met.intro (hJ _ _ ?_)); (repeat apply Exists.intro); refine ⟨?_, rfl⟩; exact ⟨rfl, rfl, T6, HR6, HT6⟩))); exact AllReady.nil)); exact AllReady.nil)); exact AllReady.nil)); refine AllReady.cons rfl (fun K hK => ?_) ?_; (focus ((go_simp); (first | (refine hK _ _ ?_; clear hK K) | (go_wp2_with ((go_at_call 13; (with_reducible refine Calls.mono (Take_duoZ H5.out.symm RU.out HV2.out) ?_); rintro e w6 ⟨rfl, T6, hr6, hT6⟩; rw [HTT.out] at hr6; have HT6 := Lib.hid hT6.symm; have HR6 := Lib.hid hr6; clear hT6 hr6)); first | (show wpAny _ _ _ _ _ _ _ _; skip) | (refine hK _ _ ?_); (try clear hK K))); refine wpAny_ready (rs := [17]) (by kernel_rfl) (by simp) ?_; refine AllReady.cons rfl (fun K hK => ?_) ?_; (focus ((go_simp); (first | (refine hK _ _ ?_; clear hK K) | (go_wp2_with ((go_at_call 13; (with_reducible refine Calls.mono (Take_duoZ H5.out.symm RU.out HV2.out) ?_); rintro e w6 ⟨rfl, T6, hr6, hT6⟩; rw [HTT.out] at hr6; have HT6 := Lib.hid hT6.symm; have HR6 := Lib.hid hr6; clear hT6 hr6)); first | (show wpAny _ _ _ _ _ _ _ _; skip) | (refine hK _ _ ?_); (try clear hK K))); refine wpAny_ready (rs := [19]) (by kernel_rfl) (by simp) ?_; refine AllReady.cons rfl (fun K hK => ?_) ?_; (focus ((go_simp); (first | (refine hK _ _ ?_; clear hK K) | (go_wp2_with ((go_at_call 13; (with_reducible refine Calls.mono (Take_duoZ H5.out.symm RU.out HV2.out) ?_); rintro e w6 ⟨rfl, T6, hr6, hT6⟩; rw [HTT.out] at hr6; have HT6 := Lib.hid hT6.symm; have HR6 := Lib.hid hr6; clear hT6 hr6)); first | (show wpAny _ _ _ _ _ _ _ _; skip) | (refine hK _ _ ?_); (try clear hK K))); refine wpAny_ready (rs := [20]) (by kernel_rfl) (by simp) ?_; refine AllReady.cons rfl (fun K hK => ?_) ?_; (focus ((go_simp); (first | (refine hK _ _ ?_; clear hK K) | (go_wp2_with ((go_at_call 13; (with_reducible refine Calls.mono (Take_duoZ H5.out.symm RU.out HV2.out) ?_); rintro e w6 ⟨rfl, T6, hr6, hT6⟩; rw [HTT.out] at hr6; have HT6 := Lib.hid hT6.symm; have HR6 := Lib.hid hr6; clear hT6 hr6)); first | (show wpAny _ _ _ _ _ _ _ _; skip) | (refine hK _ _ ?_); (try clear hK K))); refine wpAny_done (by kernel_rfl) ?_ _; (try dsimp only [Act.put, List.setIfInBounds_toArray, List.set_cons_succ, List.set_cons_zero]); (refine hK' _ _ (Met.intro (hJ _ _ ?_)); (repeat apply Exists.intro); refine ⟨?_, rfl⟩; exact ⟨rfl, rfl, T6, HR6, HT6⟩))); exact AllReady.nil)); exact AllReady.nil)); exact AllReady.nil)); exact AllReady.nil)); exact AllReady.nil)); exact AllReady.nil
          case rest =>
            obtain ⟨rfl, rfl, U', RU', H⟩ := hcut
            go_wp2
            go_roundw
            case rel =>
              refine ⟨k + 1, T', U', hlt, by go_num, ?_, ?_, H⟩
              · rw [HRK.out]; exact RT'
              · rw [HRK.out]; exact RU'
            case measure => simp [intOf]; omega
    · have hkl : k = l.length := by omega
      subst hkl
      obtain ⟨i0, hi, hz0, hz1, hz2⟩ := info_parts info_int
      have HI := Lib.hid hi
      have HZ0 := Lib.hid hz0
      have HZ1 := Lib.hid hz1
      have HZ2 := Lib.hid hz2
      obtain ⟨Rr, hRr⟩ : ∃ Rr, runZ R0 (l.take l.length) = Rr := ⟨_, rfl⟩
      rw [hRr] at RT RU HZN HZI
      have hrs := rot_sets HZI.out (by rw [HZN.out]; exact g2)
      have hli := ids_in HZI.out (by rw [HZN.out]; exact g2)
      rw [HZN.out] at hrs hli
      have hln := ids_le (whoV Rr.who)
      obtain ⟨L, hL⟩ : ∃ L, ids (whoV Rr.who) = L := ⟨_, rfl⟩
      have HIL := Lib.hid hL
      obtain ⟨V, hV⟩ : ∃ V, whoV (rotR Rr).who = V := ⟨_, rfl⟩
      have HVV := Lib.hid hV
      rw [hL, hV] at hrs
      rw [hL] at hli hln
      have HOK := Lib.hid hrs.1
      have HOF := Lib.hid hrs.2
      have HLI := Lib.hid hli
      obtain ⟨rb, hrb⟩ : ∃ rb, readyR Rr = rb := ⟨_, rfl⟩
      have HRB := Lib.hid hrb
      have HRB2 := Lib.hid ((rot_ready Rr).trans hrb)
      have e4 : (rb == rb) = true := beq_self_eq_true _
      clear hi hz0 hz1 hz2 hRr hrs hli hL hV hrb
      go_wp2_with (first | (go_at_call 15; (with_reducible refine Calls.mono (Repliers_d H.out RT.out rfl) ?_); rintro e w7 ⟨rfl, hb7⟩; have H7 := Lib.hid (H.out.call hb7); clear hb7) | (go_at_call 24; (with_reducible refine Calls.mono (Ids_L HIL.out _) ?_); rintro e w8 ⟨b8, c8, rfl, hown8, hb8⟩; have H8 := Lib.hid (H7.out.call hb8); have HL8 := Lib.hid (owns_lies hown8).lies; clear hown8 hb8))
      go_loopw [20, 22] (fun vl i wr => ∃ k : Nat, k ≤ L.length ∧ i = .int .i64 k ∧ Hid (wr.ownsRow w8.heap.size 3 1 vl k (intsV ((L.take k).map (rotI n)))) ∧ Hid (Below w8.heap.size w8 wr)) (fun _ i _ => L.length - (intOf i).toNat)
      case atStart => exact ⟨0, by omega, rfl, World.ownsRow_nil _ _ _ _, Below.refl _ _⟩
      case round =>
        obtain ⟨k, hk, rfl, HO, HB⟩ := hrel
        obtain ⟨base, cap, rfl⟩ := owns_slice HO.out
        have hsB := HB.out.size
        by_cases hlt : k < L.length
        · obtain ⟨x, hx⟩ : ∃ x, L[k] = x := ⟨_, rfl⟩
          obtain ⟨hx0, hx1⟩ := HLI.out _ (List.getElem_mem hlt)
          obtain ⟨Bi, o, rfl, hBi, hc⟩ := HL8.out k hlt
          rw [hx] at hx0 hx1 hc
          have hc := (HB.out.cell (p := ⟨Bi, o + k, none⟩) hBi).trans hc
          have HW := Lib.hid (wrap_lt k L.length hlt (by omega))
          have HT := Lib.hid (take_snocI L k hlt)
          have HX := Lib.hid hx
          have hBi' := World.block_lt_of_cell? _ _ hc
          clear hx
          go_wp2_with (at_builtin; refine wpList_append_own _ rfl _ _ 63 rfl w8.heap.size 3 i0 (.int .i64 0) 1 8 Try.underlying63 HI.out HZ0.out HZ1.out HZ2.out rfl (by decide) _ _ _ rfl (HO.out.alloc _) ⟨wr.heap.size, 0, none⟩ 1 1 [.int .i64 ((x + 1) % n)] rfl rfl (Ear.cells_new _ _ _) (by simp [Value.oneCell']) ?c3 ?c4 ?c5 ?_)
          case c3 => unfold maxLen; omega
          case c4 => omega
          case c5 => first | omega | (simp; omega)
          intro v' w9 hown' hgrow _
          have HB9 := Lib.hid (Below.grown (HB.out.alloc hsB _) hgrow (by first | omega | (simp; omega)) (fun j hj => (HO.out.lt j hj).1))
          have HO9 := Lib.hid hown'
          clear hown' hgrow
          go_wp2
          go_roundw
          case rel =>
            refine ⟨k + 1, hlt, by go_num, ?_, HB9⟩
            rw [HT.out, HX.out, List.map_append, List.map_singleton, intsV_snoc]
            have h9 := HO9.out
            rw [← List.map_take] at h9
            exact h9
          case measure => simp [intOf]; omega
        · have hkl : k = L.length := by omega
          subst hkl
          rw [List.take_length] at HO
          have HF := Lib.hid (H8.out.call HB.out)
          have hB := HF.out.below
          have hs := hB.size
          go_wp2_with (go_at_call 25; (with_reducible refine Calls.mono (Of_eqN HOK.out HOF.out (by simp) base cap _ (by omega) (owns_lies HO.out)) ?_); rintro e w10 ⟨rfl, hb10⟩; have H10 := Lib.hid (HF.out.call hb10); have hB' : Below w.heap.size w w10 := Below.trans (by (repeat' (first | (with_reducible exact Below.refl _ _) | (with_reducible assumption) | (show Below 0 _ _; with_reducible refine Below.mono (by assumption) (Nat.zero_le _)) | (with_reducible refine below_setRow ?_ ?_ _) | (with_reducible refine Below.alloc ?_ ?_ _) | (with_reducible refine Below.drew ?_) | (with_reducible refine Below.setCell ?_ ?_ _) | (with_reducible refine Below.frame ?_ _) | (with_reducible exact Nat.le_refl _) | omega | (simp only [World.size_alloc, World.size_setCell, World.size_drew, setRow_size]; omega) | (simp; omega) | (simp; done)))) (hb10.mono (by (try simp only [World.size_alloc, World.size_setCell, World.size_drew, setRow_size]); omega)); clear hb10; (try clear hB hs); have hB := hB'; clear hB'; have hs := hB.size)
          refine Ear.wp_world (Ear.AndW (Ear.Sh w.heap.size w [(w10.heap.size, _, _)]) (fun W => Hid (Duo w W B C T U))) ⟨(.cons (by (repeat' (first | (show Ear.Blk _ _ _ _; with_reducible assumption) | (with_reducible exact Ear.Blk.new _ _ _) | (with_reducible refine Ear.Blk.new' ?_; (simp only [World.size_alloc, World.size_setCell, World.size_drew, setRow_size]; done)) | (with_reducible apply Ear.Blk.alloc) | (with_reducible apply Ear.Blk.drew) | (with_reducible apply Ear.Blk.setC) | (with_reducible apply Ear.Blk.setC' (e := by omega)) | (with_reducible apply Ear.Blk.rowC (e := by first | rfl | omega)) | (with_reducible apply Ear.Blk.otherRow) | (with_reducible apply Ear.Blk.other) | (show _ ≠ _; (try simp only [World.size_alloc, World.size_setCell, World.size_drew, setRow_size]); omega) | (show _ < _; (try simp only [World.size_alloc, World.size_setCell, World.size_drew, setRow_size]); omega)))) (.nil (by (repeat' (first | (with_reducible exact Below.refl _ _) | (with_reducible assumption) | (show Below 0 _ _; with_reducible refine Below.mono (by assumption) (Nat.zero_le _)) | (with_reducible refine below_setRow ?_ ?_ _) | (with_reducible refine Below.alloc ?_ ?_ _) | (with_reducible refine Below.drew ?_) | (with_reducible refine Below.setCell ?_ ?_ _) | (with_reducible refine Below.frame ?_ _) | (with_reducible exact Nat.le_refl _) | omega | (simp only [World.size_alloc, World.size_setCell, World.size_drew, setRow_size]; omega) | (simp; omega) | (simp; done)))))), H10.out.call (by (repeat' (first | (with_reducible exact Below.refl _ _) | (with_reducible assumption) | (show Below 0 _ _; with_reducible refine Below.mono (by assumption) (Nat.zero_le _)) | (with_reducible refine below_setRow ?_ ?_ _) | (with_reducible refine Below.alloc ?_ ?_ _) | (with_reducible refine Below.drew ?_) | (with_reducible refine Below.setCell ?_ ?_ _) | (with_reducible refine Below.frame ?_ _) | (with_reducible exact Nat.le_refl _) | omega | (simp only [World.size_alloc, World.size_setCell, World.size_drew, setRow_size]; omega) | (simp; omega) | (simp; done))))⟩ ?_; (try clear hs__l); (try clear hs__c); (try clear hs__f); (try clear hs_); (try clear H11); (try clear hB hs); rintro w11 ⟨⟨hs_, hB⟩, H11⟩; replace hB : Below w.heap.size w w11 := hB; have hs := hB.size; (try simp only [List.set_cons_zero, List.set_cons_succ] at hs_); have hs__l := hs_.lt; have hs__c := hs_.cell; have hs__f := hs_.frozen
          refine Ear.Pl.wp_region_qb 18 (by kernel_rfl) (by kernel_rfl) (fun C hC1 hC2 => ?_); simp only [List.take_succ_cons, List.take_zero, List.drop_succ_cons, List.drop_zero]
          refine Ear.Pl.wpQ_run (by rfl) ?_; apply Exists.intro; refine ⟨fun K Q hK w' hw' => ?_, ?_⟩; (focus (simp only [Act.put, List.setIfInBounds_toArray, List.set_cons_succ, List.set_cons_zero] at hK; go_wp2_with (refine (alive_calls _).mono ?_; rintro e w'' ⟨rfl, hb''⟩); exact hC2.out _ _ hw' hb'')); simp only [Act.put, List.setIfInBounds_toArray, List.set_cons_succ, List.set_cons_zero]
          (iterate 6 (refine Ear.Pl.wpQ_run (by rfl) ?_; apply Exists.intro; refine ⟨fun K Q hK w' hw' => ?_, ?_⟩; (focus (obtain ⟨hc', hf'⟩ := Ear.bcell (hC1.out w' hw'); simp only [Act.put, List.setIfInBounds_toArray, List.set_cons_succ, List.set_cons_zero] at hK; go_wp2; exact hw')); simp only [Act.put, List.setIfInBounds_toArray, List.set_cons_succ, List.set_cons_zero]))
          refine Ear.Pl.wpQ_run (by rfl) ?_; apply Exists.intro; refine ⟨fun K Q hK w' hw' => ?_, ?_⟩; (focus (simp only [Act.put, List.setIfInBounds_toArray, List.set_cons_succ, List.set_cons_zero] at hK; go_wp2_with (refine (Repliers_d ((H11.out.call (((Below.refl _ w11).drew).trans (hC1.out w' hw'))).symm) RU.out HVV.out).mono ?_; rintro e w'' ⟨rfl, hb''⟩); exact hC2.out _ _ hw' hb'')); simp only [Act.put, List.setIfInBounds_toArray, List.set_cons_succ, List.set_cons_zero]
          (iterate 5 (refine Ear.Pl.wpQ_run (by rfl) ?_; apply Exists.intro; refine ⟨fun K Q hK w' hw' => ?_, ?_⟩; (focus (obtain ⟨hc', hf'⟩ := Ear.bcell (hC1.out w' hw'); simp only [Act.put, List.setIfInBounds_toArray, List.set_cons_succ, List.set_cons_zero] at hK; go_wp2; exact hw')); simp only [Act.put, List.setIfInBounds_toArray, List.set_cons_succ, List.set_cons_zero]))
          refine Ear.Pl.wpQ_run (by rfl) ?_; apply Exists.intro; refine ⟨fun K Q hK w' hw' => ?_, ?_⟩; (focus (simp only [Act.put, List.setIfInBounds_toArray, List.set_cons_succ, List.set_cons_zero] at hK; go_wp2_with (refine (Ready_dE (H11.out.call (((Below.refl _ w11).drew).trans (hC1.out w' hw'))) RT.out HRB.out).mono ?_; rintro e w'' ⟨rfl, hb''⟩); exact hC2.out _ _ hw' hb'')); simp only [Act.put, List.setIfInBounds_toArray, List.set_cons_succ, List.set_cons_zero]
          (iterate 1 (refine Ear.Pl.wpQ_run (by rfl) ?_; apply Exists.intro; refine ⟨fun K Q hK w' hw' => ?_, ?_⟩; (focus (obtain ⟨hc', hf'⟩ := Ear.bcell (hC1.out w' hw'); simp only [Act.put, List.setIfInBounds_toArray, List.set_cons_succ, List.set_cons_zero] at hK; go_wp2; exact hw')); simp only [Act.put, List.setIfInBounds_toArray, List.set_cons_succ, List.set_cons_zero]))
          refine Ear.Pl.wpQ_run (by rfl) ?_; apply Exists.intro; refine ⟨fun K Q hK w' hw' => ?_, ?_⟩; (focus (simp only [Act.put, List.setIfInBounds_toArray, List.set_cons_succ, List.set_cons_zero] at hK; go_wp2_with (refine (Ready_dE ((H11.out.call (((Below.refl _ w11).drew).trans (hC1.out w' hw'))).symm) RU.out HRB2.out).mono ?_; rintro e w'' ⟨rfl, hb''⟩); exact hC2.out _ _ hw' hb'')); simp only [Act.put, List.setIfInBounds_toArray, List.set_cons_succ, List.set_cons_zero]
          (iterate 2 (refine Ear.Pl.wpQ_run (by rfl) ?_; apply Exists.intro; refine ⟨fun K Q hK w' hw' => ?_, ?_⟩; (focus (obtain ⟨hc', hf'⟩ := Ear.bcell (hC1.out w' hw'); simp only [Act.put, List.setIfInBounds_toArray, List.set_cons_succ, List.set_cons_zero] at hK; go_wp2; exact hw')); simp only [Act.put, List.setIfInBounds_toArray, List.set_cons_succ, List.set_cons_zero]))
          refine Ear.Pl.wpQ_nil ?_
          intro w12 hb12
          clear hC1 hC2
          have hB := hB.trans (((Below.refl w.heap.size w11).drew).trans (hb12.mono hs))
          go_wp2
          go_ret
          exact ⟨rfl, hB⟩
theorem TallyNamed_calls (n f self round : Int) (l : List Rp) (lb : Option Addr) (lc : Nat) (w : World) (hL : LiesR l lb w) :
    Calls Try.prog 9 #[.int .i64 n, .int .i64 f, .int .i64 self, .int .i64 round, .slice lb l.length lc] w fun e w' => e = .returned (.bool true) ∧ Below w.heap.size w w' := by
  by_cases h : newE n f self round 0#128 = 0
  · by_cases hl : l.length ≤ 300
    · exact Named_good n f self round l lb lc w h hl hL
    · exact Named_long n f self round l lb lc w h (by omega)
  · exact Named_bad n f self round l lb lc w h
end Go.Proofs.Ytjopmnfmifbmbaa
