/-
  The reader of bytes: a set.
-/
import Derived.Test.YtklfkfnckdeifaaWireM
import Derived.Test.YtklfkfnckdeifaaWireD
namespace Go.Proofs.Ytklfkfnckdeifaa
set_option linter.unusedSimpArgs false
set_option linter.unusedVariables false
open Go.RowKit
attribute [local irreducible] Ear.Pl.wpQ Ear.Pa.wpQ Ear.Fe.wpQ Ear.Fa.wpQ withinW
/-- The bits of m bytes from k on, the lowest ones first. -/
def heardK (l : List Int) (k : Nat) : Nat → BitVec 128
  | 0 => 0#128
  | m + 1 => heardK l k m ||| (BitVec.ofInt 128 (l.getD (k + m) 0) <<< (8 * m))
theorem heardK_zero (l : List Int) (k : Nat) : heardK l k 0 = 0#128 := rfl
theorem heardK_succ (l : List Int) (k m : Nat) : heardK l k (m + 1) = heardK l k m ||| (BitVec.ofInt 128 (l.getD (k + m) 0) <<< (8 * m)) := rfl
theorem byte_bit {x : Int} (x0 : 0 ≤ x) (x1 : x < 256) (i : Nat) (hi : 8 ≤ i) : (BitVec.ofInt 128 x).getLsbD i = false := by
  obtain ⟨a, rfl⟩ : ∃ a : Nat, x = a := ⟨x.toNat, by omega⟩
  rw [BitVec.ofInt_natCast, BitVec.getLsbD_ofNat]
  have : a < 2 ^ i := Nat.lt_of_lt_of_le (show a < 2 ^ 8 by omega) (Nat.pow_le_pow_right (by omega) hi)
  rw [Nat.testBit_lt_two_pow this]
  simp
theorem wd_ext (a b : BitVec 128) (j : Nat) (h : ∀ i, i < 32 → a.getLsbD (32 * j + i) = b.getLsbD (32 * j + i)) : Ear.wd a j = Ear.wd b j := by
  unfold Ear.wd
  congr 2
  apply BitVec.eq_of_getLsbD_eq
  intro i hi
  rw [BitVec.getLsbD_extractLsb', BitVec.getLsbD_extractLsb', h i hi]
theorem heard_other (v : BitVec 128) {x : Int} (x0 : 0 ≤ x) (x1 : x < 256) (i j : Nat) (hj : j < 4) (hi : i / 4 ≠ j) : Ear.wd (v ||| (BitVec.ofInt 128 x <<< (8 * i))) j = Ear.wd v j := by
  apply wd_ext
  intro t ht
  rw [BitVec.getLsbD_or, BitVec.getLsbD_shiftLeft]
  by_cases h : 32 * j + t < 8 * i
  · simp [h]
  · rw [byte_bit x0 x1 (32 * j + t - 8 * i) (by omega)]
    simp
theorem heard_wd (v : BitVec 128) {x : Int} (x0 : 0 ≤ x) (x1 : x < 256) (i : Nat) (hi : i < 16) : Go.bits .or .u32 (Ear.wd v (i / 4)) (x * 2 ^ (i % 4 * 8) % 4294967296) = Ear.wd (v ||| (BitVec.ofInt 128 x <<< (8 * i))) (i / 4) := by
  have e : x * 2 ^ (i % 4 * 8) % 4294967296 = Ear.wd (BitVec.ofInt 128 x <<< (8 * i)) (i / 4) := by
    obtain ⟨a, rfl⟩ : ∃ a : Nat, x = a := ⟨x.toNat, by omega⟩
    have ha : a < 256 := by omega
    have e1 : BitVec.ofInt 128 (a : Int) <<< (8 * i) = BitVec.ofNat 128 (a * 2 ^ (i % 4 * 8)) <<< (32 * (i / 4)) := by
      rw [BitVec.ofInt_natCast]
      apply BitVec.eq_of_toNat_eq
      rw [BitVec.toNat_shiftLeft, BitVec.toNat_shiftLeft, BitVec.toNat_ofNat, BitVec.toNat_ofNat, Nat.shiftLeft_eq, Nat.shiftLeft_eq]
      have e2 : 8 * i = i % 4 * 8 + 32 * (i / 4) := by omega
      rw [e2, Nat.pow_add, Nat.mod_mul_mod, Nat.mod_mul_mod, Nat.mul_assoc]
    have hp : a * 2 ^ (i % 4 * 8) < 4294967296 := by
      rcases (by omega : i % 4 = 0 ∨ i % 4 = 1 ∨ i % 4 = 2 ∨ i % 4 = 3) with h | h | h | h <;> rw [h] <;> simp <;> omega
    have e3 : ((a : Int) * 2 ^ (i % 4 * 8)) = ((a * 2 ^ (i % 4 * 8) : Nat) : Int) := by simp
    rw [e1, e3]
    generalize a * 2 ^ (i % 4 * 8) = z at hp
    unfold Ear.wd
    have e4 : ((BitVec.ofNat 128 z <<< (32 * (i / 4))).extractLsb' (32 * (i / 4)) 32) = BitVec.ofNat 32 z := by
      apply BitVec.eq_of_getLsbD_eq
      intro t ht
      rw [BitVec.getLsbD_extractLsb', BitVec.getLsbD_shiftLeft, BitVec.getLsbD_ofNat, BitVec.getLsbD_ofNat]
      have : 32 * (i / 4) + t - 32 * (i / 4) = t := by omega
      have h2 : 32 * (i / 4) + t < 128 := by omega
      have h3 : t < 128 := by omega
      simp [this, h2, ht, h3]
    rw [e4, BitVec.toNat_ofNat]
    omega
  rw [e, Ear.wd_or]
theorem set_heard (v : BitVec 128) {x : Int} (x0 : 0 ≤ x) (x1 : x < 256) (i : Nat) (hi : i < 16) : List.set ([.int .u32 (Ear.wd (v) 0), .int .u32 (Ear.wd (v) 1), .int .u32 (Ear.wd (v) 2), .int .u32 (Ear.wd (v) 3)] : List Value) (i / 4) (.int .u32 (Go.bits .or .u32 (Ear.wd v (i / 4)) (x * 2 ^ (i % 4 * 8) % 4294967296))) = [.int .u32 (Ear.wd (v ||| (BitVec.ofInt 128 x <<< (8 * i))) 0), .int .u32 (Ear.wd (v ||| (BitVec.ofInt 128 x <<< (8 * i))) 1), .int .u32 (Ear.wd (v ||| (BitVec.ofInt 128 x <<< (8 * i))) 2), .int .u32 (Ear.wd (v ||| (BitVec.ofInt 128 x <<< (8 * i))) 3)] := by
  rw [heard_wd v x0 x1 i hi]
  have h0 := fun h => heard_other v x0 x1 i 0 (by omega) h
  have h1 := fun h => heard_other v x0 x1 i 1 (by omega) h
  have h2 := fun h => heard_other v x0 x1 i 2 (by omega) h
  have h3 := fun h => heard_other v x0 x1 i 3 (by omega) h
  rcases (by omega : i / 4 = 0 ∨ i / 4 = 1 ∨ i / 4 = 2 ∨ i / 4 = 3) with h | h | h | h <;> rw [h] at h0 h1 h2 h3 ⊢ <;> simp only [List.set_cons_zero, List.set_cons_succ]
  · rw [h1 (by omega), h2 (by omega), h3 (by omega)]
  · rw [h0 (by omega), h2 (by omega), h3 (by omega)]
  · rw [h0 (by omega), h1 (by omega), h3 (by omega)]
  · rw [h0 (by omega), h1 (by omega), h2 (by omega)]
theorem keep4 (W : World) (A : Nat) (a b c d : Value) : Ear.Keep (fun k => k = A) W ((((W.setCell ⟨A, 0, none⟩ a).setCell ⟨A, 1, none⟩ b).setCell ⟨A, 2, none⟩ c).setCell ⟨A, 3, none⟩ d) :=
  Ear.Keep.trans (Ear.Keep.trans (Ear.Keep.trans (keepR _ _ _ _) (keepR _ _ _ _)) (keepR _ _ _ _)) (keepR _ _ _ _)
theorem RdAt.keep {w w' : World} {R B o cap k : Nat} {l : List Int} {S : Nat → Prop} (h : RdAt w R B o cap k l) (hk : Ear.Keep S w w') (h1 : ¬ S R) (h2 : ¬ S B) : RdAt w' R B o cap k l := by
  obtain ⟨⟨q, hq, hx⟩, hl, hne, hle, hcap⟩ := h
  refine ⟨⟨q, hq, hx.keep hk h1⟩, LiesV.keepA hl hk (fun b hb => .inr (fun o' he => ?_)), hne, hle, hcap⟩
  injection he with he
  injection he with he
  exact h2 (he ▸ hb)
attribute [local irreducible] Ear.wd heardK
set_option maxRecDepth 100000 in
set_option maxHeartbeats 4000000 in
theorem rset_calls {w : World} {R B o cap k : Nat} {l : List Int} {n : Int} {r : Bool} (h : RdAt w R B o cap k l) (hb : byteOk l) (h1 : 1 ≤ n) (h2 : n ≤ 100) (m : Nat) (hm : (m : Int) = (n + 7) / 8) (hn : k + m ≤ l.length) (hr : withinW (heardK l k m) n = r) :
    Calls Try.prog 55 #[.pointer (some ⟨R, 0, none⟩), .int .i64 n] w fun e w' => if r = true then (e = .returned (.agg #[.int .u32 (Ear.wd (heardK l k m) 0), .int .u32 (Ear.wd (heardK l k m) 1), .int .u32 (Ear.wd (heardK l k m) 2), .int .u32 (Ear.wd (heardK l k m) 3)]) ∧ RdAt w' R B o cap (k + m) l ∧ Ear.Keep (fun b => b = R) w w') else (e = boomE 74 ∧ Ear.Keep (fun b => b = R) w w') := by
  have H := Lib.hid h
  have HB := Lib.hid hb
  have HR := Lib.hid hr
  have hm1 : 1 ≤ m := by omega
  have hm13 : m ≤ 13 := by omega
  have hw0 := Ear.wd_zero
  have hlR := (show R < w.heap.size from by obtain ⟨q, _, hx⟩ := h.blk; exact hx.lt)
  have hlB : B < w.heap.size := by
    obtain ⟨B', o', he, hB', -⟩ := h.lies 0 (by rw [bytesV_len]; omega)
    injection he with he
    injection he with he
    exact he ▸ hB'
  clear h hb hr
  go_enter Try.func55, Try.ntmps55
  go_wp2_with (go_at_call 52; (with_reducible refine Calls.mono (rbytes_ok (H.out.keep (S := fun _ => False) (Ear.Keep.of_below (by (repeat' (first | (with_reducible exact Below.refl _ _) | (with_reducible assumption) | (show Below 0 _ _; with_reducible refine Below.mono (by assumption) (Nat.zero_le _)) | (with_reducible refine below_setRow ?_ ?_ _) | (with_reducible refine Below.alloc ?_ ?_ _) | (with_reducible refine Below.drew ?_) | (with_reducible refine Below.setCell ?_ ?_ _) | (with_reducible refine Below.frame ?_ _) | (with_reducible exact Nat.le_refl _) | omega | (simp only [World.size_alloc, World.size_setCell, World.size_drew, setRow_size]; omega) | (simp; omega) | (simp; done))))) id id) m hm hm1 hn) ?_); rintro e w1 ⟨rfl, hr1, hk1⟩; have H1 := Lib.hid hr1; have hx : Ear.Blk w1 w.heap.size _ _ := (Ear.Blk.keep (by (repeat' (first | (show Ear.Blk _ _ _ _; with_reducible assumption) | (with_reducible exact Ear.Blk.new _ _ _) | (with_reducible refine Ear.Blk.new' ?_; (simp only [World.size_alloc, World.size_setCell, World.size_drew, setRow_size]; done)) | (with_reducible apply Ear.Blk.alloc) | (with_reducible apply Ear.Blk.drew) | (with_reducible apply Ear.Blk.setC) | (with_reducible apply Ear.Blk.setC' (e := by omega)) | (with_reducible apply Ear.Blk.rowC (e := by first | rfl | omega)) | (with_reducible apply Ear.Blk.otherRow) | (with_reducible apply Ear.Blk.other) | (show _ ≠ _; (try simp only [World.size_alloc, World.size_setCell, World.size_drew, setRow_size]); omega) | (show _ < _; (try simp only [World.size_alloc, World.size_setCell, World.size_drew, setRow_size]); omega)))) hk1 (by omega)); have hs_ : Ear.Blk w1 (w.heap.size + 1) _ _ := (Ear.Blk.keep (by (repeat' (first | (show Ear.Blk _ _ _ _; with_reducible assumption) | (with_reducible exact Ear.Blk.new _ _ _) | (with_reducible refine Ear.Blk.new' ?_; (simp only [World.size_alloc, World.size_setCell, World.size_drew, setRow_size]; done)) | (with_reducible apply Ear.Blk.alloc) | (with_reducible apply Ear.Blk.drew) | (with_reducible apply Ear.Blk.setC) | (with_reducible apply Ear.Blk.setC' (e := by omega)) | (with_reducible apply Ear.Blk.rowC (e := by first | rfl | omega)) | (with_reducible apply Ear.Blk.otherRow) | (with_reducible apply Ear.Blk.other) | (show _ ≠ _; (try simp only [World.size_alloc, World.size_setCell, World.size_drew, setRow_size]); omega) | (show _ < _; (try simp only [World.size_alloc, World.size_setCell, World.size_drew, setRow_size]); omega)))) hk1 (by omega)); have HK := Lib.hid (Ear.Keep.trans (Ear.Keep.of_below (show Below w.heap.size w _ from by (repeat' (first | (with_reducible exact Below.refl _ _) | (with_reducible assumption) | (show Below 0 _ _; with_reducible refine Below.mono (by assumption) (Nat.zero_le _)) | (with_reducible refine below_setRow ?_ ?_ _) | (with_reducible refine Below.alloc ?_ ?_ _) | (with_reducible refine Below.drew ?_) | (with_reducible refine Below.setCell ?_ ?_ _) | (with_reducible refine Below.frame ?_ _) | (with_reducible exact Nat.le_refl _) | omega | (simp only [World.size_alloc, World.size_setCell, World.size_drew, setRow_size]; omega) | (simp; omega) | (simp; done))))) hk1); clear hr1 hk1)
  have hx_l := hx.lt
  have hs__l := hs_.lt
  have hz1 := HK.out.size
  go_loopw [6, 7, 14] (fun _ _ i wr => ∃ j : Nat, j ≤ m ∧ i = .int .i64 j ∧ Ear.Blk wr (w.heap.size + 1) 30 ([.int .u32 (Ear.wd (heardK l k j) 0), .int .u32 (Ear.wd (heardK l k j) 1), .int .u32 (Ear.wd (heardK l k j) 2), .int .u32 (Ear.wd (heardK l k j) 3)]) ∧ Ear.Blk wr w.heap.size 30 [.int .u32 0, .int .u32 0, .int .u32 0, .int .u32 0] ∧ Hid (RdAt wr R B o cap (k + m) l) ∧ Hid (Ear.Keep (fun b => b = R) w wr)) (fun _ _ i _ => m - (intOf i).toNat)
  case atStart => exact ⟨0, by omega, rfl, by rw [heardK_zero]; simp only [hw0]; exact hs_, hx, H1, HK⟩
  case round =>
    clear hs_ hx hx_l hs__l H1 HK
    obtain ⟨j, hj, rfl, hs_, hx, HR1, HK1⟩ := hrel
    have hs__l := hs_.lt
    have hs__c := hs_.cell
    have hs__f := hs_.frozen
    have hx_l := hx.lt
    by_cases hlt : j < m
    · obtain ⟨a0, x0, x1⟩ := read_at HR1.out.lies HB.out (k + j) (by omega)
      rw [← Nat.add_assoc] at a0
      generalize hxx : l.getD (k + j) 0 = x at a0 x0 x1
      have hj4 : j / 4 < 4 := by omega
      have a1 : wr.cell? ⟨w.heap.size + 1, j / 4, none⟩ = some (.int .u32 (Ear.wd (heardK l k j) (j / 4))) := (hs_.cell _).trans (Ear.sel _ _ hj4)
      clear hs__c
      go_wp2
      refine Ear.Pl.wp_region_qb 12 (by kernel_rfl) (by kernel_rfl) (fun C hC1 hC2 => ?_); simp only [List.take_succ_cons, List.take_zero, List.drop_succ_cons, List.drop_zero]
      (iterate 12 (refine Ear.Pl.wpQ_run (by rfl) ?_; apply Exists.intro; refine ⟨fun K Q hK w' hw' => ?_, ?_⟩; (focus (obtain ⟨hc', hf'⟩ := Ear.bcell (hC1.out w' hw'); simp only [Act.put, List.setIfInBounds_toArray, List.set_cons_succ, List.set_cons_zero] at hK; go_wp2; exact hw')); simp only [Act.put, List.setIfInBounds_toArray, List.set_cons_succ, List.set_cons_zero]))
      refine Ear.Pl.wpQ_nil ?_
      intro w5 hb5
      clear hC1 hC2
      have hB5 : Below wr.heap.size wr w5 := ((Below.refl _ wr).drew).trans hb5
      have hs5 := hs_.below hB5 hs__l
      have hx5 := hx.below hB5 hx_l
      have hs5_l := hs5.lt
      have hs5_f := hs5.frozen
      have a5 : w5.cell? ⟨w.heap.size + 1, j / 4, none⟩ = some (.int .u32 (Ear.wd (heardK l k j) (j / 4))) := (hB5.cell (p := ⟨w.heap.size + 1, j / 4, none⟩) hs__l).trans a1
      clear hb5 a1
      go_wp2
      refine ⟨⟨j + 1, by omega, rfl, Ear.Blk.renew (Ear.Blk.setC hs5) ?_, hx5.other _ (by dsimp only; omega) _, Lib.hid (HR1.out.keep (S := fun b => b = w.heap.size + 1) (Ear.Keep.setCell (S := fun b => b = w.heap.size + 1) (p := ⟨w.heap.size + 1, j / 4, none⟩) (Ear.Keep.of_below hB5) (.inl rfl) _) (by omega) (by omega)), Lib.hid (Ear.Keep.setCell (HK1.out.call hB5) (.inr (by dsimp only; omega)) _)⟩, by simp [intOf]; omega⟩
      rw [set_heard _ x0 x1 j (by omega)]
      rw [heardK_succ, hxx]
    · have : j = m := by omega
      subst this
      cases r with
      | true =>
        go_wp2_with (first
          | (go_at_call 63; (with_reducible refine Calls.mono (WithinW_eq HR.out _) ?_); rintro e w6 ⟨rfl, hb6⟩; have hs6 := hs_.below hb6 hs__l; have hx6 := hx.below hb6 hx_l; have hs6_l := hs6.lt; have hs6_c := hs6.cell; have hx6_l := hx6.lt; have hx6_f := hx6.frozen; have hx6_c := hx6.cell; have HK6 := Lib.hid (HK1.out.call hb6); have HR6 := Lib.hid (HR1.out.keep (S := fun _ => False) (Ear.Keep.of_below hb6) id id); clear hb6)
          | (go_at_call 53; (with_reducible refine Calls.mono (need_ok _ _) ?_); rintro e w7 ⟨rfl, he⟩; subst w7))
        refine Ear.bp_world (fun W => Ear.Blk W w.heap.size 30 ([.int .u32 (Ear.wd (heardK l k j) 0), .int .u32 (Ear.wd (heardK l k j) 1), .int .u32 (Ear.wd (heardK l k j) 2), .int .u32 (Ear.wd (heardK l k j) 3)]) ∧ RdAt W R B o cap (k + j) l ∧ Ear.Keep (fun b => b = R) w W) ⟨Ear.Blk.renew (Ear.Blk.setC (Ear.Blk.setC (Ear.Blk.setC (Ear.Blk.setC hx6)))) rfl, HR6.out.keep (S := fun b => b = w.heap.size) (keep4 _ _ _ _ _ _) (by omega) (by omega), by (repeat' (with_reducible refine Ear.Keep.setCell ?_ (.inr (by dsimp only; omega)) _)); exact HK6.out⟩ ?_
        rintro W ⟨hx7, hr7, hk7⟩
        have hx7_c := hx7.cell
        refine bodyPost_ret (v := .agg #[.int .u32 (Ear.wd (heardK l k j) 0), .int .u32 (Ear.wd (heardK l k j) 1), .int .u32 (Ear.wd (heardK l k j) 2), .int .u32 (Ear.wd (heardK l k j) 3)]) (by simp [results, Try.results55, go_sem, hx7_c]) rfl ?_
        exact ⟨rfl, hr7, hk7⟩
      | false =>
        go_wp2_with (first
          | (go_at_call 63; (with_reducible refine Calls.mono (WithinW_eq HR.out _) ?_); rintro e w6 ⟨rfl, hb6⟩; have HK6 := Lib.hid (HK1.out.call hb6); clear hb6)
          | (go_at_call 53; (with_reducible refine Calls.mono (need_no _ _) ?_); rintro e w7 ⟨rfl, he⟩; subst w7))
        exact ⟨rfl, rfl, HK6.out⟩
end Go.Proofs.Ytklfkfnckdeifaa
