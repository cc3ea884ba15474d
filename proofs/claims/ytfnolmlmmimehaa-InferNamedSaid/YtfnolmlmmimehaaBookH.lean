/-
  What New of a book comes to.
-/
import Derived.Test.YtfnolmlmmimehaaBookF
namespace Go.Proofs.Ytfnolmlmmimehaa
set_option linter.unusedSimpArgs false
set_option linter.unusedVariables false
open Go.RowKit
theorem owns_of_blkB {W : World} {lo B e s n : Nat} {cs : List Value} (h : Ear.Blk W B e cs) (hlo : lo ≤ B) (hl : cs.length = n * s) (hn : n ≤ maxLen) : W.ownsRow lo e s (.slice (some ⟨B, 0, none⟩) n n) n cs :=
  ⟨hl, .inr ⟨B, n, cs.toArray, rfl, hlo, h, Nat.le_refl _, hn, by simp [hl], by simp [← hl]⟩⟩
def mixN (N k : Nat) : List Nt := (List.range N).map fun i : Nat => if i < k then (⟨(i : Int), 0, 1⟩ : Nt) else ⟨0, 0, 0⟩
theorem mixN_len (N k : Nat) : (mixN N k).length = N := by simp [mixN]
theorem mixN_all (N : Nat) : mixN N N = freshL N := by
  unfold mixN freshL
  apply List.map_congr_left
  intro i hi
  rw [if_pos (List.mem_range.1 hi)]
theorem mixN_set (N k : Nat) : (mixN N k).set k ⟨(k : Int), 0, 1⟩ = mixN N (k + 1) := by
  apply List.ext_getElem
  · simp [mixN_len]
  · intro i h1 h2
    by_cases hik : k = i
    · subst hik; simp [mixN]
    · rw [List.getElem_set_ne hik]
      simp only [mixN, List.getElem_map, List.getElem_range]
      have : (i < k) ↔ (i < k + 1) := by omega
      simp only [this]
theorem ntsV_zero (N : Nat) : ntsV (mixN N 0) = List.replicate (N * 3) (.int .i64 0) := by
  have h : ∀ m, ntsV (List.replicate m ⟨0, 0, 0⟩) = List.replicate (m * 3) (.int .i64 0) := by
    intro m
    induction m with
    | zero => rfl
    | succ m ih => rw [List.replicate_succ, ntsV_cons, ih, show (m + 1) * 3 = m * 3 + 1 + 1 + 1 by omega, List.replicate_succ, List.replicate_succ, List.replicate_succ]
  rw [← h N]
  congr 1
  apply List.ext_getElem
  · simp [mixN_len]
  · intro i h1 h2
    simp [mixN]
theorem made_zero (n : Nat) : madeCells #[Value.int .i64 0, .int .i64 0, .int .i64 0] n = (List.replicate n (Value.int .i64 0)).toArray := by
  apply Array.ext
  · simp [size_madeCells]
  · intro i h1 h2
    simp only [madeCells, Array.getElem_map, Array.getElem_range, List.getElem_toArray, List.getElem_replicate]
    have : i % 3 = 0 ∨ i % 3 = 1 ∨ i % 3 = 2 := by omega
    show (#[Value.int .i64 0, .int .i64 0, .int .i64 0] : Array Value)[i % 3]! = _
    rcases this with h | h | h <;> rw [h] <;> rfl
theorem info_nt : (Try.prog.info? 65).map (fun i => (i.zero, i.size, i.bytes)) = some (some (.agg #[.int .i64 0, .int .i64 0, .int .i64 0]), 3, 24) := by kernel_rfl
theorem make_nt (N : Nat) (hN : N ≤ 100) (u : World) : (Instr.makeSlice 60 (.int .i64 (N : Int)) (.int .i64 (N : Int))).run Try.prog u =
    .ok (.slice (some ⟨u.heap.size, 0, none⟩) N N) (u.alloc (.cells (ntsV (mixN N 0)).toArray 65)) := by
  obtain ⟨i0, hi, hz0, hz1, hz2⟩ := info_parts info_nt
  have h := run_make (P := Try.prog) (w := u) 60 65 i0 _ Try.underlying60 hi hz0 .i64 .i64 (N : Int) (N : Int) (by omega) (Int.le_refl _) (by rw [hz2]; omega) (by omega)
  rw [hz1, Int.toNat_natCast] at h
  rw [h, ntsV_zero, ← made_zero]
  rfl
structure BNewPost (n self tag : Int) (w : World) (e : Ending) (w' : World) : Prop where
  below : Below w.heap.size w w'
  bad : newErr n self tag ≠ 0 → e = .returned (.tuple #[.pointer none, .int .i64 (newErr n self tag)])
  good : newErr n self tag = 0 → ∃ B g cap, e = .returned (.tuple #[.pointer (some ⟨B, 0, none⟩), .int .i64 0]) ∧ w.heap.size ≤ B ∧ BkAt w' B w.heap.size g cap (newB n self tag)
theorem BNewPost.of_bad {n self tag : Int} {w w' : World} {e : Ending} {c : Int} (hc : newErr n self tag = c) (h0 : c ≠ 0) (hb : Below w.heap.size w w') (he : e = .returned (.tuple #[.pointer none, .int .i64 c])) : BNewPost n self tag w e w' :=
  ⟨hb, fun _ => by rw [hc]; exact he, fun h => absurd (hc.symm.trans h) h0⟩
set_option maxRecDepth 100000 in
set_option maxHeartbeats 2000000 in
theorem BNew_arg (n self tag : Int) (w : World) (h : n < 1 ∨ 100 < n) : Calls Try.prog 30 #[.int .i64 n, .int .i64 self, .int .i64 tag] w (BNewPost n self tag w) := by
  have he : newErr n self tag = 1 := by unfold newErr; rw [if_pos h]
  have HE := Lib.hid he
  have h' : n < 1 ∨ (1 ≤ n ∧ 100 < n) := by omega
  clear h he
  rcases h' with h | ⟨h, h'⟩
  all_goals
    go_enter Try.func30, Try.ntmps30
    go_wp2
    go_ret2
    exact .of_bad HE.out (by decide) (by go_grown) rfl
set_option maxRecDepth 100000 in
set_option maxHeartbeats 2000000 in
theorem BNew_id (n self tag : Int) (w : World) (h1 : 1 ≤ n) (h2 : n ≤ 100) (h : self < 0 ∨ n ≤ self) : Calls Try.prog 30 #[.int .i64 n, .int .i64 self, .int .i64 tag] w (BNewPost n self tag w) := by
  have he : newErr n self tag = 30 := by unfold newErr; rw [if_neg (by omega), if_pos h]
  have HE := Lib.hid he
  have h' : self < 0 ∨ (0 ≤ self ∧ n ≤ self) := by omega
  clear h he
  rcases h' with h | ⟨h, h'⟩
  all_goals
    go_enter Try.func30, Try.ntmps30
    go_wp2
    go_ret2
    exact .of_bad HE.out (by decide) (by go_grown) rfl
theorem Valid_own {n self tag : Int} {b : Bool} (h : validN n ⟨self, tag, 1⟩ = b) (w : World) : Calls Try.prog 69 #[.int .i64 n, .agg #[.int .i64 self, .int .i64 tag, .int .i64 1]] w fun e w' => e = .returned (.bool b) ∧ Below w.heap.size w w' := Valid_eq h w
set_option maxRecDepth 100000 in
set_option maxHeartbeats 2000000 in
theorem BNew_notice (n self tag : Int) (w : World) (h1 : 1 ≤ n) (h2 : n ≤ 100) (h3 : 0 ≤ self) (h4 : self < n) (h : validN n ⟨self, tag, 1⟩ = false) : Calls Try.prog 30 #[.int .i64 n, .int .i64 self, .int .i64 tag] w (BNewPost n self tag w) := by
  have he : newErr n self tag = 50 := by unfold newErr; rw [if_neg (by omega), if_neg (by omega), if_pos h]
  have HE := Lib.hid he
  have HV := Lib.hid h
  clear h he
  go_enter Try.func30, Try.ntmps30
  go_wp2_with (go_at_call 69; (with_reducible refine Calls.mono (Valid_own HV.out _) ?_); rintro e w1 ⟨rfl, hb1⟩; have hB' : Below w.heap.size w w1 := Below.trans (by (repeat' (first | (with_reducible exact Below.refl _ _) | (with_reducible assumption) | (show Below 0 _ _; with_reducible refine Below.mono (by assumption) (Nat.zero_le _)) | (with_reducible refine below_setRow ?_ ?_ _) | (with_reducible refine Below.alloc ?_ ?_ _) | (with_reducible refine Below.drew ?_) | (with_reducible refine Below.setCell ?_ ?_ _) | (with_reducible refine Below.frame ?_ _) | (with_reducible exact Nat.le_refl _) | omega | (simp only [World.size_alloc, World.size_setCell, World.size_drew, setRow_size]; omega) | (simp; omega) | (simp; done)))) (hb1.mono (by (try simp only [World.size_alloc, World.size_setCell, World.size_drew, setRow_size]); omega)); clear hb1; (try clear hB hs); have hB := hB'; clear hB'; have hs := hB.size)
  go_ret2
  exact .of_bad HE.out (by decide) hB rfl
set_option maxRecDepth 100000 in
set_option maxHeartbeats 8000000 in
theorem BNew_ok (n self tag : Int) (w : World) (h1 : 1 ≤ n) (h2 : n ≤ 100) (h3 : 0 ≤ self) (h4 : self < n) (h : validN n ⟨self, tag, 1⟩ = true) : Calls Try.prog 30 #[.int .i64 n, .int .i64 self, .int .i64 tag] w (BNewPost n self tag w) := by
  have he : newErr n self tag = 0 := by unfold newErr; rw [if_neg (by omega), if_neg (by omega), if_neg (by rw [h]; decide)]
  have HE := Lib.hid he
  have HV := Lib.hid h
  obtain ⟨N, rfl⟩ := Int.eq_ofNat_of_zero_le (show 0 ≤ n by omega)
  obtain ⟨s, rfl⟩ := Int.eq_ofNat_of_zero_le h3
  have hN : N ≤ 100 := by omega
  have hsN : s < N := by omega
  have hmk := make_nt N hN
  clear h he
  go_enter Try.func30, Try.ntmps30
  go_wp2_with (go_at_call 69; (with_reducible refine Calls.mono (Valid_own HV.out _) ?_); rintro e w1 ⟨rfl, hb1⟩; have hB' : Below w.heap.size w w1 := Below.trans (by (repeat' (first | (with_reducible exact Below.refl _ _) | (with_reducible assumption) | (show Below 0 _ _; with_reducible refine Below.mono (by assumption) (Nat.zero_le _)) | (with_reducible refine below_setRow ?_ ?_ _) | (with_reducible refine Below.alloc ?_ ?_ _) | (with_reducible refine Below.drew ?_) | (with_reducible refine Below.setCell ?_ ?_ _) | (with_reducible refine Below.frame ?_ _) | (with_reducible exact Nat.le_refl _) | omega | (simp only [World.size_alloc, World.size_setCell, World.size_drew, setRow_size]; omega) | (simp; omega) | (simp; done)))) (hb1.mono (by (try simp only [World.size_alloc, World.size_setCell, World.size_drew, setRow_size]); omega)); have ho' := (show Ear.Blk w1 (w.heap.size) _ _ from by (repeat' (first | (show Ear.Blk _ _ _ _; with_reducible assumption) | (with_reducible exact Ear.Blk.new _ _ _) | (with_reducible refine Ear.Blk.new' ?_; (simp only [World.size_alloc, World.size_setCell, World.size_drew, setRow_size]; done)) | (with_reducible apply Ear.Blk.alloc) | (with_reducible apply Ear.Blk.drew) | (with_reducible apply Ear.Blk.setC) | (with_reducible apply Ear.Blk.setC' (e := by omega)) | (with_reducible apply Ear.Blk.rowC (e := by first | rfl | omega)) | (with_reducible apply Ear.Blk.otherRow) | (with_reducible apply Ear.Blk.other) | (with_reducible apply Ear.Blk.below (hb := hb1)) | (show _ ≠ _; (try simp only [World.size_alloc, World.size_setCell, World.size_drew, setRow_size]); omega) | (show _ < _; (try simp only [World.size_alloc, World.size_setCell, World.size_drew, setRow_size]); omega)))); clear hb1; (try clear ho_l); (try clear ho_c); (try clear ho_f); (try clear ho); have ho := ho'; clear ho'; (try simp only [List.set_cons_zero, List.set_cons_succ] at ho); have ho_l := ho.lt; have ho_c := ho.cell; have ho_f := ho.frozen; (try clear hB hs); have hB := hB'; clear hB'; have hs := hB.size)
  have hs1 : w.heap.size + 1 ≤ w1.heap.size := ho.lt
  refine Ear.wp_world (Ear.Sh w.heap.size w [(w.heap.size, _, _), (w1.heap.size, _, _), (w1.heap.size + 1, _, _)]) (.cons (by (repeat' (first | (show Ear.Blk _ _ _ _; with_reducible assumption) | (with_reducible exact Ear.Blk.new _ _ _) | (with_reducible refine Ear.Blk.new' ?_; (simp only [World.size_alloc, World.size_setCell, World.size_drew, setRow_size]; done)) | (with_reducible apply Ear.Blk.alloc) | (with_reducible apply Ear.Blk.drew) | (with_reducible apply Ear.Blk.setC) | (with_reducible apply Ear.Blk.setC' (e := by omega)) | (with_reducible apply Ear.Blk.rowC (e := by first | rfl | omega)) | (with_reducible apply Ear.Blk.otherRow) | (with_reducible apply Ear.Blk.other) | (show _ ≠ _; (try simp only [World.size_alloc, World.size_setCell, World.size_drew, setRow_size]); omega) | (show _ < _; (try simp only [World.size_alloc, World.size_setCell, World.size_drew, setRow_size]); omega)))) (.cons (by (repeat' (first | (show Ear.Blk _ _ _ _; with_reducible assumption) | (with_reducible exact Ear.Blk.new _ _ _) | (with_reducible refine Ear.Blk.new' ?_; (simp only [World.size_alloc, World.size_setCell, World.size_drew, setRow_size]; done)) | (with_reducible apply Ear.Blk.alloc) | (with_reducible apply Ear.Blk.drew) | (with_reducible apply Ear.Blk.setC) | (with_reducible apply Ear.Blk.setC' (e := by omega)) | (with_reducible apply Ear.Blk.rowC (e := by first | rfl | omega)) | (with_reducible apply Ear.Blk.otherRow) | (with_reducible apply Ear.Blk.other) | (show _ ≠ _; (try simp only [World.size_alloc, World.size_setCell, World.size_drew, setRow_size]); omega) | (show _ < _; (try simp only [World.size_alloc, World.size_setCell, World.size_drew, setRow_size]); omega)))) (.cons (by (repeat' (first | (show Ear.Blk _ _ _ _; with_reducible assumption) | (with_reducible exact Ear.Blk.new _ _ _) | (with_reducible refine Ear.Blk.new' ?_; (simp only [World.size_alloc, World.size_setCell, World.size_drew, setRow_size]; done)) | (with_reducible apply Ear.Blk.alloc) | (with_reducible apply Ear.Blk.drew) | (with_reducible apply Ear.Blk.setC) | (with_reducible apply Ear.Blk.setC' (e := by omega)) | (with_reducible apply Ear.Blk.rowC (e := by first | rfl | omega)) | (with_reducible apply Ear.Blk.otherRow) | (with_reducible apply Ear.Blk.other) | (show _ ≠ _; (try simp only [World.size_alloc, World.size_setCell, World.size_drew, setRow_size]); omega) | (show _ < _; (try simp only [World.size_alloc, World.size_setCell, World.size_drew, setRow_size]); omega)))) (.nil (by (repeat' (first | (with_reducible exact Below.refl _ _) | (with_reducible assumption) | (show Below 0 _ _; with_reducible refine Below.mono (by assumption) (Nat.zero_le _)) | (with_reducible refine below_setRow ?_ ?_ _) | (with_reducible refine Below.alloc ?_ ?_ _) | (with_reducible refine Below.drew ?_) | (with_reducible refine Below.setCell ?_ ?_ _) | (with_reducible refine Below.frame ?_ _) | (with_reducible exact Nat.le_refl _) | omega | (simp only [World.size_alloc, World.size_setCell, World.size_drew, setRow_size]; omega) | (simp; omega) | (simp; done)))))))) ?_; (try clear ho_l); (try clear ho_c); (try clear ho_f); (try clear ho); (try clear hrow_l); (try clear hrow_c); (try clear hrow_f); (try clear hrow); (try clear hbk_l); (try clear hbk_c); (try clear hbk_f); (try clear hbk); (try clear hB hs); rintro w2 ⟨ho, hrow, hbk, hB⟩; replace hB : Below w.heap.size w w2 := hB; have hs := hB.size; (try simp only [List.set_cons_zero, List.set_cons_succ] at ho); (try simp only [List.set_cons_zero, List.set_cons_succ] at hrow); (try simp only [List.set_cons_zero, List.set_cons_succ] at hbk); have ho_l := ho.lt; have ho_c := ho.cell; have ho_f := ho.frozen; have hrow_l := hrow.lt; have hrow_c := hrow.cell; have hrow_f := hrow.frozen; have hbk_l := hbk.lt; have hbk_c := hbk.cell; have hbk_f := hbk.frozen
  have HO2 := Lib.hid (owns_of_blkB (lo := w.heap.size) (n := N) (s := 3) hrow (by omega) (by rw [ntsV_len, mixN_len]) (by unfold maxLen; omega))
  obtain ⟨g, hg⟩ : ∃ g, w1.heap.size = g := ⟨_, rfl⟩
  rw [hg] at hbk hrow HO2 hs1 ⊢
  clear hrow hrow_l hrow_c hrow_f hbk_l hbk_c hbk_f hmk
  go_loopw [42, 10] (fun i _ wr => ∃ k : Nat, k ≤ N ∧ i = .int .i64 k ∧ Hid (wr.ownsRow w.heap.size 65 3 (.slice (some ⟨g, 0, none⟩) N N) N (ntsV (mixN N k))) ∧ Ear.Sh w.heap.size w [(w.heap.size, 65, [.int .i64 s, .int .i64 tag, .int .i64 1]), (g + 1, 96, [.slice (some ⟨g, 0, none⟩) N N])] wr) (fun i _ _ => N - (intOf i).toNat)
  case atStart => exact ⟨0, by omega, rfl, HO2, .cons ho (.cons hbk (.nil hB))⟩
  case round =>
    (try clear ho ho_l ho_c ho_f); (try clear hbk); (try clear hB hs); (try clear HO2)
    obtain ⟨k, hkn, rfl, HO, ho, hbk, hB⟩ := hrel
    replace hB : Below w.heap.size w _ := hB; have hs := hB.size; have ho_l := ho.lt; have ho_c := ho.cell; have ho_f := ho.frozen; have hbk_l := hbk.lt; have hbk_c := hbk.cell; have hbk_f := hbk.frozen
    have hgl := (HO.out.lt g rfl).2
    have hfz := owns_frozen HO.out
    by_cases hlt : k < N
    · have HW := Lib.hid (wrap_bk k N hlt (by omega))
      obtain ⟨q0, q1, q2⟩ := nt_cells HO.out k (by rw [mixN_len]; exact hlt)
      go_wp2
      refine Ear.Pl.wp_region_qb 8 (by kernel_rfl) (by kernel_rfl) (fun C hC1 hC2 => ?_); simp only [List.take_succ_cons, List.take_zero, List.drop_succ_cons, List.drop_zero]
      (iterate 6 (refine Ear.Pl.wpQ_run (by rfl) ?_; apply Exists.intro; refine ⟨fun K Q hK w' hw' => ?_, ?_⟩; (focus (obtain ⟨hc', hf'⟩ := Ear.bcell (hC1.out w' hw'); simp only [Act.put, List.setIfInBounds_toArray, List.set_cons_succ, List.set_cons_zero] at hK; go_wp2; exact hw')); simp only [Act.put, List.setIfInBounds_toArray, List.set_cons_succ, List.set_cons_zero]))
      refine Ear.Pl.wpQ_run (by rfl) ?_; apply Exists.intro; refine ⟨fun K Q hK w' hw' => ?_, ?_⟩; (focus (simp only [Act.put, List.setIfInBounds_toArray, List.set_cons_succ, List.set_cons_zero] at hK; go_wp2_with (refine (Fresh_calls _ _).mono ?_; rintro e w'' ⟨rfl, hb''⟩); exact hC2.out _ _ hw' hb'')); simp only [Act.put, List.setIfInBounds_toArray, List.set_cons_succ, List.set_cons_zero]
      (iterate 1 (refine Ear.Pl.wpQ_run (by rfl) ?_; apply Exists.intro; refine ⟨fun K Q hK w' hw' => ?_, ?_⟩; (focus (obtain ⟨hc', hf'⟩ := Ear.bcell (hC1.out w' hw'); simp only [Act.put, List.setIfInBounds_toArray, List.set_cons_succ, List.set_cons_zero] at hK; go_wp2; exact hw')); simp only [Act.put, List.setIfInBounds_toArray, List.set_cons_succ, List.set_cons_zero]))
      refine Ear.Pl.wpQ_nil ?_
      intro w5 hb5
      clear hC1 hC2 q0 q1 q2 hfz
      have HO := Lib.hid (owns_below HO.out (((Below.refl _ _).drew).trans hb5))
      obtain ⟨q0, q1, q2⟩ := nt_cells HO.out k (by rw [mixN_len]; exact hlt)
      have hfz := owns_frozen HO.out
      have hB' : Below w.heap.size w w5 := Below.trans (by (repeat' (first | (with_reducible exact Below.refl _ _) | (with_reducible assumption) | (show Below 0 _ _; with_reducible refine Below.mono (by assumption) (Nat.zero_le _)) | (with_reducible refine below_setRow ?_ ?_ _) | (with_reducible refine Below.alloc ?_ ?_ _) | (with_reducible refine Below.drew ?_) | (with_reducible refine Below.setCell ?_ ?_ _) | (with_reducible refine Below.frame ?_ _) | (with_reducible exact Nat.le_refl _) | omega | (simp only [World.size_alloc, World.size_setCell, World.size_drew, setRow_size]; omega) | (simp; omega) | (simp; done)))) (hb5.mono (by (try simp only [World.size_alloc, World.size_setCell, World.size_drew, setRow_size]); omega)); have ho' := (show Ear.Blk w5 (w.heap.size) _ _ from by (repeat' (first | (show Ear.Blk _ _ _ _; with_reducible assumption) | (with_reducible exact Ear.Blk.new _ _ _) | (with_reducible refine Ear.Blk.new' ?_; (simp only [World.size_alloc, World.size_setCell, World.size_drew, setRow_size]; done)) | (with_reducible apply Ear.Blk.alloc) | (with_reducible apply Ear.Blk.drew) | (with_reducible apply Ear.Blk.setC) | (with_reducible apply Ear.Blk.setC' (e := by omega)) | (with_reducible apply Ear.Blk.rowC (e := by first | rfl | omega)) | (with_reducible apply Ear.Blk.otherRow) | (with_reducible apply Ear.Blk.other) | (with_reducible apply Ear.Blk.below (hb := hb5)) | (show _ ≠ _; (try simp only [World.size_alloc, World.size_setCell, World.size_drew, setRow_size]); omega) | (show _ < _; (try simp only [World.size_alloc, World.size_setCell, World.size_drew, setRow_size]); omega)))); have hbk' := (show Ear.Blk w5 (g + 1) _ _ from by (repeat' (first | (show Ear.Blk _ _ _ _; with_reducible assumption) | (with_reducible exact Ear.Blk.new _ _ _) | (with_reducible refine Ear.Blk.new' ?_; (simp only [World.size_alloc, World.size_setCell, World.size_drew, setRow_size]; done)) | (with_reducible apply Ear.Blk.alloc) | (with_reducible apply Ear.Blk.drew) | (with_reducible apply Ear.Blk.setC) | (with_reducible apply Ear.Blk.setC' (e := by omega)) | (with_reducible apply Ear.Blk.rowC (e := by first | rfl | omega)) | (with_reducible apply Ear.Blk.otherRow) | (with_reducible apply Ear.Blk.other) | (with_reducible apply Ear.Blk.below (hb := hb5)) | (show _ ≠ _; (try simp only [World.size_alloc, World.size_setCell, World.size_drew, setRow_size]); omega) | (show _ < _; (try simp only [World.size_alloc, World.size_setCell, World.size_drew, setRow_size]); omega)))); clear hb5; (try clear ho_l); (try clear ho_c); (try clear ho_f); (try clear ho); have ho := ho'; clear ho'; (try simp only [List.set_cons_zero, List.set_cons_succ] at ho); have ho_l := ho.lt; have ho_c := ho.cell; have ho_f := ho.frozen; (try clear hbk_l); (try clear hbk_c); (try clear hbk_f); (try clear hbk); have hbk := hbk'; clear hbk'; (try simp only [List.set_cons_zero, List.set_cons_succ] at hbk); have hbk_l := hbk.lt; have hbk_c := hbk.cell; have hbk_f := hbk.frozen; (try clear hB hs); have hB := hB'; clear hB'; have hs := hB.size
      go_wp2
      go_roundw
      case rel =>
        refine ⟨k + 1, hlt, by go_num, ?_, .cons (by (repeat' (first | (show Ear.Blk _ _ _ _; with_reducible assumption) | (with_reducible exact Ear.Blk.new _ _ _) | (with_reducible refine Ear.Blk.new' ?_; (simp only [World.size_alloc, World.size_setCell, World.size_drew, setRow_size]; done)) | (with_reducible apply Ear.Blk.alloc) | (with_reducible apply Ear.Blk.drew) | (with_reducible apply Ear.Blk.setC) | (with_reducible apply Ear.Blk.setC' (e := by omega)) | (with_reducible apply Ear.Blk.rowC (e := by first | rfl | omega)) | (with_reducible apply Ear.Blk.otherRow) | (with_reducible apply Ear.Blk.other) | (show _ ≠ _; (try simp only [World.size_alloc, World.size_setCell, World.size_drew, setRow_size]); omega) | (show _ < _; (try simp only [World.size_alloc, World.size_setCell, World.size_drew, setRow_size]); omega)))) (.cons (by (repeat' (first | (show Ear.Blk _ _ _ _; with_reducible assumption) | (with_reducible exact Ear.Blk.new _ _ _) | (with_reducible refine Ear.Blk.new' ?_; (simp only [World.size_alloc, World.size_setCell, World.size_drew, setRow_size]; done)) | (with_reducible apply Ear.Blk.alloc) | (with_reducible apply Ear.Blk.drew) | (with_reducible apply Ear.Blk.setC) | (with_reducible apply Ear.Blk.setC' (e := by omega)) | (with_reducible apply Ear.Blk.rowC (e := by first | rfl | omega)) | (with_reducible apply Ear.Blk.otherRow) | (with_reducible apply Ear.Blk.other) | (show _ ≠ _; (try simp only [World.size_alloc, World.size_setCell, World.size_drew, setRow_size]); omega) | (show _ < _; (try simp only [World.size_alloc, World.size_setCell, World.size_drew, setRow_size]); omega)))) (.nil (by (repeat' (first | (with_reducible exact Below.refl _ _) | (with_reducible assumption) | (show Below 0 _ _; with_reducible refine Below.mono (by assumption) (Nat.zero_le _)) | (with_reducible refine below_setRow ?_ ?_ _) | (with_reducible refine Below.alloc ?_ ?_ _) | (with_reducible refine Below.drew ?_) | (with_reducible refine Below.setCell ?_ ?_ _) | (with_reducible refine Below.frame ?_ _) | (with_reducible exact Nat.le_refl _) | omega | (simp only [World.size_alloc, World.size_setCell, World.size_drew, setRow_size]; omega) | (simp; omega) | (simp; done))))))⟩
        have h9 := own_nt (x := ⟨(k : Int), 0, 1⟩) HO.out (show k < (mixN N k).length by rw [mixN_len]; exact hlt)
        rw [mixN_set] at h9
        exact h9
      case measure => simp [intOf]; omega
    · have hkl : k = N := by omega
      subst hkl
      obtain ⟨q0, q1, q2⟩ := nt_cells HO.out s (by rw [mixN_len]; exact hsN)
      go_wp2
      refine Ear.Pl.wp_region_qb 7 (by kernel_rfl) (by kernel_rfl) (fun C hC1 hC2 => ?_); simp only [List.take_succ_cons, List.take_zero, List.drop_succ_cons, List.drop_zero]
      (iterate 7 (refine Ear.Pl.wpQ_run (by rfl) ?_; apply Exists.intro; refine ⟨fun K Q hK w' hw' => ?_, ?_⟩; (focus (obtain ⟨hc', hf'⟩ := Ear.bcell (hC1.out w' hw'); simp only [Act.put, List.setIfInBounds_toArray, List.set_cons_succ, List.set_cons_zero] at hK; go_wp2; exact hw')); simp only [Act.put, List.setIfInBounds_toArray, List.set_cons_succ, List.set_cons_zero]))
      refine Ear.Pl.wpQ_nil ?_
      intro w5 hb5
      clear hC1 hC2 q0 q1 q2 hfz
      have HO := Lib.hid (owns_below HO.out (((Below.refl _ _).drew).trans hb5))
      obtain ⟨q0, q1, q2⟩ := nt_cells HO.out s (by rw [mixN_len]; exact hsN)
      have hfz := owns_frozen HO.out
      have hB' : Below w.heap.size w w5 := Below.trans (by (repeat' (first | (with_reducible exact Below.refl _ _) | (with_reducible assumption) | (show Below 0 _ _; with_reducible refine Below.mono (by assumption) (Nat.zero_le _)) | (with_reducible refine below_setRow ?_ ?_ _) | (with_reducible refine Below.alloc ?_ ?_ _) | (with_reducible refine Below.drew ?_) | (with_reducible refine Below.setCell ?_ ?_ _) | (with_reducible refine Below.frame ?_ _) | (with_reducible exact Nat.le_refl _) | omega | (simp only [World.size_alloc, World.size_setCell, World.size_drew, setRow_size]; omega) | (simp; omega) | (simp; done)))) (hb5.mono (by (try simp only [World.size_alloc, World.size_setCell, World.size_drew, setRow_size]); omega)); have ho' := (show Ear.Blk w5 (w.heap.size) _ _ from by (repeat' (first | (show Ear.Blk _ _ _ _; with_reducible assumption) | (with_reducible exact Ear.Blk.new _ _ _) | (with_reducible refine Ear.Blk.new' ?_; (simp only [World.size_alloc, World.size_setCell, World.size_drew, setRow_size]; done)) | (with_reducible apply Ear.Blk.alloc) | (with_reducible apply Ear.Blk.drew) | (with_reducible apply Ear.Blk.setC) | (with_reducible apply Ear.Blk.setC' (e := by omega)) | (with_reducible apply Ear.Blk.rowC (e := by first | rfl | omega)) | (with_reducible apply Ear.Blk.otherRow) | (with_reducible apply Ear.Blk.other) | (with_reducible apply Ear.Blk.below (hb := hb5)) | (show _ ≠ _; (try simp only [World.size_alloc, World.size_setCell, World.size_drew, setRow_size]); omega) | (show _ < _; (try simp only [World.size_alloc, World.size_setCell, World.size_drew, setRow_size]); omega)))); have hbk' := (show Ear.Blk w5 (g + 1) _ _ from by (repeat' (first | (show Ear.Blk _ _ _ _; with_reducible assumption) | (with_reducible exact Ear.Blk.new _ _ _) | (with_reducible refine Ear.Blk.new' ?_; (simp only [World.size_alloc, World.size_setCell, World.size_drew, setRow_size]; done)) | (with_reducible apply Ear.Blk.alloc) | (with_reducible apply Ear.Blk.drew) | (with_reducible apply Ear.Blk.setC) | (with_reducible apply Ear.Blk.setC' (e := by omega)) | (with_reducible apply Ear.Blk.rowC (e := by first | rfl | omega)) | (with_reducible apply Ear.Blk.otherRow) | (with_reducible apply Ear.Blk.other) | (with_reducible apply Ear.Blk.below (hb := hb5)) | (show _ ≠ _; (try simp only [World.size_alloc, World.size_setCell, World.size_drew, setRow_size]); omega) | (show _ < _; (try simp only [World.size_alloc, World.size_setCell, World.size_drew, setRow_size]); omega)))); clear hb5; (try clear ho_l); (try clear ho_c); (try clear ho_f); (try clear ho); have ho := ho'; clear ho'; (try simp only [List.set_cons_zero, List.set_cons_succ] at ho); have ho_l := ho.lt; have ho_c := ho.cell; have ho_f := ho.frozen; (try clear hbk_l); (try clear hbk_c); (try clear hbk_f); (try clear hbk); have hbk := hbk'; clear hbk'; (try simp only [List.set_cons_zero, List.set_cons_succ] at hbk); have hbk_l := hbk.lt; have hbk_c := hbk.cell; have hbk_f := hbk.frozen; (try clear hB hs); have hB := hB'; clear hB'; have hs := hB.size
      go_wp2
      go_ret2
      have h9 := own_nt (x := ⟨(s : Int), tag, 1⟩) HO.out (show s < (mixN k k).length by rw [mixN_len]; exact hsN)
      have hnb : newB (k : Int) (s : Int) tag = (mixN k k).set s ⟨(s : Int), tag, 1⟩ := by unfold newB; rw [mixN_all, Int.toNat_natCast, Int.toNat_natCast]
      have hlen : (newB (k : Int) (s : Int) tag).length = k := by rw [hnb, List.length_set, mixN_len]
      refine ⟨by (repeat' (first | (with_reducible exact Below.refl _ _) | (with_reducible assumption) | (show Below 0 _ _; with_reducible refine Below.mono (by assumption) (Nat.zero_le _)) | (with_reducible refine below_setRow ?_ ?_ _) | (with_reducible refine Below.alloc ?_ ?_ _) | (with_reducible refine Below.drew ?_) | (with_reducible refine Below.setCell ?_ ?_ _) | (with_reducible refine Below.frame ?_ _) | (with_reducible exact Nat.le_refl _) | omega | (simp only [World.size_alloc, World.size_setCell, World.size_drew, setRow_size]; omega) | (simp; omega) | (simp; done))), fun h => absurd HE.out h, fun _ => ⟨g + 1, g, k, rfl, by omega, ?_⟩⟩
      refine ⟨by rw [hlen]; ((repeat' (first | (show Ear.Blk _ _ _ _; with_reducible assumption) | (with_reducible exact Ear.Blk.new _ _ _) | (with_reducible refine Ear.Blk.new' ?_; (simp only [World.size_alloc, World.size_setCell, World.size_drew, setRow_size]; done)) | (with_reducible apply Ear.Blk.alloc) | (with_reducible apply Ear.Blk.drew) | (with_reducible apply Ear.Blk.setC) | (with_reducible apply Ear.Blk.setC' (e := by omega)) | (with_reducible apply Ear.Blk.rowC (e := by first | rfl | omega)) | (with_reducible apply Ear.Blk.otherRow) | (with_reducible apply Ear.Blk.other) | (show _ ≠ _; (try simp only [World.size_alloc, World.size_setCell, World.size_drew, setRow_size]); omega) | (show _ < _; (try simp only [World.size_alloc, World.size_setCell, World.size_drew, setRow_size]); omega)))), by rw [hlen, hnb]; exact h9⟩
theorem BNew_calls (n self tag : Int) (w : World) : Calls Try.prog 30 #[.int .i64 n, .int .i64 self, .int .i64 tag] w (BNewPost n self tag w) := by
  by_cases h : n < 1 ∨ 100 < n
  · exact BNew_arg n self tag w h
  · by_cases h' : self < 0 ∨ n ≤ self
    · exact BNew_id n self tag w (by omega) (by omega) h'
    · cases h3 : validN n ⟨self, tag, 1⟩ with
      | false => exact BNew_notice n self tag w (by omega) (by omega) (by omega) (by omega) h3
      | true => exact BNew_ok n self tag w (by omega) (by omega) (by omega) (by omega) h3
theorem New_bk {n self tag : Int} {w0 W : World} {bs : List Bk} (h : Books w0 W bs) (hn : newErr n self tag = 0) :
    Calls Try.prog 30 #[.int .i64 n, .int .i64 self, .int .i64 tag] W fun e W' =>
      ∃ b : Bk, e = .returned (.tuple #[.pointer (some ⟨b.B, 0, none⟩), .int .i64 0]) ∧ b.L = newB n self tag ∧ Books w0 W' (bs ++ [b]) := by
  refine (BNew_calls n self tag W).mono ?_
  rintro e W' ⟨hb, -, hg⟩
  obtain ⟨B, g, cap, he, hB, hat⟩ := hg hn
  exact ⟨⟨B, g, cap, newB n self tag⟩, he, rfl, h.push hb hat hB (Nat.le_refl _) (newB_ok hn)⟩
end Go.Proofs.Ytfnolmlmmimehaa
