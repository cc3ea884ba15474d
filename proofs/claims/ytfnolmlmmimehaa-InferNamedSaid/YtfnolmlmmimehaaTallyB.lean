/-
  What Repliers, Heards and the closures of Take come to.
-/
import Derived.Test.YtfnolmlmmimehaaTallyA
import Derived.Test.YtfnolmlmmimehaaVal
namespace Go.Proofs.Ytfnolmlmmimehaa
set_option linter.unusedSimpArgs false
set_option linter.unusedVariables false
open Go.RowKit
attribute [local irreducible] Ear.wd Ear.one Ear.clean
attribute [local go_sem] eqNilP eqNilN eqSet
set_option maxHeartbeats 1000000 in
theorem Repliers_nil (w : World) : Calls Try.prog 53 #[.pointer none] w fun e w' => e = .returned (.agg #[.int .u32 (Ear.wd (0#128) 0), .int .u32 (Ear.wd (0#128) 1), .int .u32 (Ear.wd (0#128) 2), .int .u32 (Ear.wd (0#128) 3)]) ∧ Below w.heap.size w w' := by
  go_enter Try.func53, Try.ntmps53
  go_wp2
  refine bodyPost_ret (v := .agg #[.int .u32 (Ear.wd (0#128) 0), .int .u32 (Ear.wd (0#128) 1), .int .u32 (Ear.wd (0#128) 2), .int .u32 (Ear.wd (0#128) 3)]) (by simp [results, Try.results53, go_sem, Ear.wd_zero]) rfl ⟨rfl, by go_grown⟩
set_option maxHeartbeats 1000000 in
theorem Repliers_at {w : World} {B lo cap : Nat} {base : Option Addr} {t : Tl} (h : TlAt w B lo base cap t) : Calls Try.prog 53 #[.pointer (some ⟨B, 0, none⟩)] w fun e w' => e = .returned (.agg #[.int .u32 (Ear.wd (t.rep) 0), .int .u32 (Ear.wd (t.rep) 1), .int .u32 (Ear.wd (t.rep) 2), .int .u32 (Ear.wd (t.rep) 3)]) ∧ Below w.heap.size w w' := by
  have hc := h.blk.cell
  have hlt := h.blk.lt
  have hq := Ear.beq_zero t.rep
  clear h
  obtain ⟨n, need, round, rep, hs⟩ := t
  by_cases hz : rep = 0#128
  · subst hz
    clear hq
    dsimp only [tlCells] at hc
    simp only [Ear.wd_zero] at hc
    go_enter Try.func53, Try.ntmps53
    go_wp2
    refine bodyPost_ret (v := .agg #[.int .u32 (Ear.wd (0#128) 0), .int .u32 (Ear.wd (0#128) 1), .int .u32 (Ear.wd (0#128) 2), .int .u32 (Ear.wd (0#128) 3)]) (by simp [results, Try.results53, go_sem, Ear.wd_zero]) rfl ⟨rfl, by go_grown⟩
  · rw [decide_eq_false hz] at hq
    go_enter Try.func53, Try.ntmps53
    go_wp2
    refine bodyPost_ret (v := .agg #[.int .u32 (Ear.wd (rep) 0), .int .u32 (Ear.wd (rep) 1), .int .u32 (Ear.wd (rep) 2), .int .u32 (Ear.wd (rep) 3)]) (by simp [results, Try.results53, go_sem]) rfl ⟨rfl, by go_grown⟩

theorem eqNilS0 (W : World) : Sem.run Try.prog (binOp BinOp.eql 22 (.slice none 0 0) (.slice none 0 0)) W = .ok (.bool true) W := by kernel_rfl
theorem eqNilS1 (a : Addr) (n c : Nat) (W : World) : Sem.run Try.prog (binOp BinOp.eql 22 (.slice (some a) n c) (.slice none 0 0)) W = .ok (.bool false) W := by kernel_rfl
attribute [local go_sem] eqNilS0 eqNilS1
theorem info_set : (Try.prog.info? 26).map (fun i => (i.zero, i.size, i.bytes)) = some (some (.agg #[.int .u32 0, .int .u32 0, .int .u32 0, .int .u32 0]), 4, 16) := by kernel_rfl
theorem setsV_one (l : List (BitVec 128)) : ∀ u ∈ setsV l, u.oneCell' = true := by
  intro u hu
  unfold setsV at hu
  obtain ⟨v, _, hv⟩ := List.mem_flatMap.1 hu
  simp at hv
  rcases hv with rfl | rfl | rfl | rfl <;> rfl
def clonePost (l : List (BitVec 128)) (w : World) (e : Ending) (w' : World) : Prop :=
  ∃ base cap, e = .returned (.slice base l.length cap) ∧ w'.ownsRow w.heap.size 26 4 (.slice base l.length cap) l.length (setsV l) ∧ Below w.heap.size w w'
set_option maxRecDepth 100000 in
set_option maxHeartbeats 1000000 in
theorem Clone_calls (l : List (BitVec 128)) (base : Option Addr) (cap lo : Nat) (w : World) (h : w.ownsRow lo 26 4 (.slice base l.length cap) l.length (setsV l)) (hn : l.length ≤ 100000) :
    Calls Try.prog 81 #[.slice base l.length cap] w (clonePost l w) := by
  obtain ⟨i0, hi, hz0, hz1, hz2⟩ := info_parts info_set
  have HI := Lib.hid hi
  have HZ0 := Lib.hid hz0
  have HZ1 := Lib.hid hz1
  have HZ2 := Lib.hid hz2
  clear hi hz0 hz1 hz2
  have hlie := owns_liesV h
  obtain ⟨hl, ⟨hv, hn0⟩ | ⟨g, cap', cur, hv, hb, hc, h1, h2, h3, h4⟩⟩ := h
  · simp only [Value.slice.injEq] at hv
    obtain ⟨rfl, -, rfl⟩ := hv
    have hln : l = [] := List.length_eq_zero_iff.1 hn0
    subst hln
    go_enter Try.func81, Try.ntmps81
    go_wp2
    go_ret
    exact ⟨none, 0, rfl, World.ownsRow_nil _ _ _ _, Below.refl _ _⟩
  · simp only [Value.slice.injEq] at hv
    obtain ⟨rfl, -, rfl⟩ := hv
    have HLIE := Lib.hid hlie
    have HGL := Lib.hid (Array.getElem?_eq_some_iff.1 hc).1
    have HLL := Lib.hid hl
    clear hlie hl hb hc h2 h3 h4
    go_enter Try.func81, Try.ntmps81
    go_wp2_with (at_builtin; refine wpList_append_own _ rfl _ _ 22 rfl w.heap.size 26 i0 _ 4 16 Try.underlying22 HI.out HZ0.out HZ1.out HZ2.out rfl (by decide) _ 0 [] rfl (World.ownsRow_made w #[] 0 (Nat.le_refl _) (by simp) rfl) ⟨g, 0, none⟩ l.length cap (setsV l) rfl HLL.out ?c1 (setsV_one l) ?c3 ?c4 ?c5 ?_)
    case c1 =>
      intro j u hj
      have hjl : j < (setsV l).length := (List.getElem?_eq_some_iff.1 hj).1
      obtain ⟨B, o, he, hBl, hcell⟩ := HLIE.out j hjl
      simp only [Option.some.injEq, Addr.mk.injEq] at he
      obtain ⟨rfl, rfl, -⟩ := he
      have hadd : (⟨g, 0, none⟩ : Addr).add j = ⟨g, 0 + j, none⟩ := by unfold Addr.add; by_cases h : j = 0 <;> simp [h]
      rw [hadd, ← hj, ← hcell]
      exact World.cell?_of_block (Below.heap_alloc w _ g HGL.out)
    case c3 => unfold maxLen; omega
    case c4 => omega
    case c5 => first | omega | (simp; done) | (simp; omega)
    intro v' w3 hown' hgrow _
    obtain ⟨base', cap', rfl⟩ := owns_slice hown'
    have HO := Lib.hid hown'
    have hB3 : Below w.heap.size w w3 := ((Below.refl _ w).alloc (Nat.le_refl _) _).grown hgrow (by simp) (fun j hj => by simp [Value.ownBlock] at hj; omega)
    clear hown' hgrow
    go_wp2
    go_ret
    exact ⟨base', cap', rfl, HO.out, hB3⟩
theorem Heards_nil (w : World) : Calls Try.prog 54 #[.pointer none] w (clonePost [] w) := by
  go_enter Try.func54, Try.ntmps54
  go_wp2_with (first | (go_at_call 82; refine (list_nil _).mono ?_; rintro e w' ⟨rfl, rfl⟩) | (go_at_call 81; (refine Calls.mono (Clone_calls [] none 0 0 _ (World.ownsRow_nil _ _ _ _) (by simp)) ?_); rintro e w1 ⟨base, cap, rfl, hown, hb⟩))
  go_ret
  exact ⟨base, cap, rfl, hown, hb⟩
set_option maxHeartbeats 1000000 in
theorem Heards_at {w : World} {B lo cap : Nat} {base : Option Addr} {t : Tl} (h : TlAt w B lo base cap t) (hn : t.hs.length ≤ 100000) : Calls Try.prog 54 #[.pointer (some ⟨B, 0, none⟩)] w (clonePost t.hs w) := by
  have H := Lib.hid h
  clear h
  go_enter Try.func54, Try.ntmps54
  go_wp2_with (first | (go_at_call 82; refine (list_at H.out).mono ?_; rintro e w' ⟨rfl, rfl⟩) | (go_at_call 81; (with_reducible refine Calls.mono (Clone_calls t.hs base cap lo _ H.out.own hn) ?_); rintro e w1 ⟨base', cap', rfl, hown, hb⟩; have HO := Lib.hid hown; clear hown))
  go_ret
  exact ⟨base', cap', rfl, HO.out, hb⟩

set_option maxRecDepth 100000 in
set_option maxHeartbeats 1000000 in
theorem Take1_calls {w : World} {B lo cap b1 b2 : Nat} {base : Option Addr} {t : Tl} {from_ : Int} (h : TlAt w B lo base cap t) (h1 : Ear.Blk w b1 3 [.int .i64 from_]) (h2 : Ear.Blk w b2 31 [.pointer (some ⟨B, 0, none⟩)]) :
    Calls Try.prog 42 #[.pointer (some ⟨b1, 0, none⟩), .pointer (some ⟨b2, 0, none⟩)] w fun e w' => e = .returned (.bool (decide (from_ < 0) || decide (t.n ≤ from_))) ∧ Below w.heap.size w w' := by
  have hc := h.blk.cell
  have h1c := h1.cell
  have h2c := h2.cell
  clear h h1 h2
  by_cases h0 : from_ < 0
  · have hd : decide (from_ < 0) = true := decide_eq_true h0
    go_enter Try.func42, Try.ntmps42
    go_wp2
    refine Ear.Pl.wp_region_qs 10 (by kernel_rfl) (by kernel_rfl) ?_; simp only [List.take_succ_cons, List.take_zero, List.drop_succ_cons, List.drop_zero]
    (iterate 3 (refine Ear.Pl.wpQ_run (by rfl) ?_; apply Exists.intro; refine ⟨fun K Q hK w' hw' => ?_, ?_⟩; (focus (subst hw'; simp only [Act.put, List.setIfInBounds_toArray, List.set_cons_succ, List.set_cons_zero] at hK; go_wp2; try rfl)); simp only [Act.put, List.setIfInBounds_toArray, List.set_cons_succ, List.set_cons_zero]))
    (iterate 6 (refine Ear.Pl.wpQ_skip (by rfl) ?_; simp only [Act.put, List.setIfInBounds_toArray, List.set_cons_succ, List.set_cons_zero]))
    (iterate 1 (refine Ear.Pl.wpQ_run (by rfl) ?_; apply Exists.intro; refine ⟨fun K Q hK w' hw' => ?_, ?_⟩; (focus (subst hw'; simp only [Act.put, List.setIfInBounds_toArray, List.set_cons_succ, List.set_cons_zero] at hK; go_wp2; try rfl)); simp only [Act.put, List.setIfInBounds_toArray, List.set_cons_succ, List.set_cons_zero]))
    refine Ear.Pl.wpQ_nil ?_
    rintro w' rfl
    go_wp2
    go_ret
    exact ⟨by simp [h0], by go_grown⟩
  · have hd : decide (from_ < 0) = false := decide_eq_false h0
    go_enter Try.func42, Try.ntmps42
    go_wp2
    refine Ear.Pl.wp_region_qs 10 (by kernel_rfl) (by kernel_rfl) ?_; simp only [List.take_succ_cons, List.take_zero, List.drop_succ_cons, List.drop_zero]
    (iterate 10 (refine Ear.Pl.wpQ_run (by rfl) ?_; apply Exists.intro; refine ⟨fun K Q hK w' hw' => ?_, ?_⟩; (focus (subst hw'; simp only [Act.put, List.setIfInBounds_toArray, List.set_cons_succ, List.set_cons_zero] at hK; go_wp2; try rfl)); simp only [Act.put, List.setIfInBounds_toArray, List.set_cons_succ, List.set_cons_zero]))
    refine Ear.Pl.wpQ_nil ?_
    rintro w' rfl
    go_wp2
    go_ret
    exact ⟨by rw [hd]; rfl, by go_grown⟩
set_option maxRecDepth 100000 in
set_option maxHeartbeats 1000000 in
theorem Take2_calls {w : World} {B lo cap b1 b2 : Nat} {base : Option Addr} {t : Tl} {heard : BitVec 128} (h : TlAt w B lo base cap t) (h1 : Ear.Blk w b1 26 [.int .u32 (Ear.wd (heard) 0), .int .u32 (Ear.wd (heard) 1), .int .u32 (Ear.wd (heard) 2), .int .u32 (Ear.wd (heard) 3)]) (h2 : Ear.Blk w b2 31 [.pointer (some ⟨B, 0, none⟩)]) :
    Calls Try.prog 43 #[.pointer (some ⟨b1, 0, none⟩), .pointer (some ⟨b2, 0, none⟩)] w fun e w' => e = .returned (.bool (!decide (heard &&& Ear.full (Ear.clampN t.n) = heard))) ∧ Below w.heap.size w w' := by
  have hc := h.blk.cell
  have hlt := h.blk.lt
  have h1c := h1.cell
  have h1l := h1.lt
  have h2c := h2.cell
  have h2l := h2.lt
  clear h h1 h2
  go_enter Try.func43, Try.ntmps43
  go_wp2
  refine Ear.Pl.wp_region_qb 7 (by kernel_rfl) (by kernel_rfl) (fun C hC1 hC2 => ?_); simp only [List.take_succ_cons, List.take_zero, List.drop_succ_cons, List.drop_zero]
  (iterate 5 (refine Ear.Pl.wpQ_run (by rfl) ?_; apply Exists.intro; refine ⟨fun K Q hK w' hw' => ?_, ?_⟩; (focus (obtain ⟨hc', hf'⟩ := Ear.bcell (hC1.out w' hw'); simp only [Act.put, List.setIfInBounds_toArray, List.set_cons_succ, List.set_cons_zero] at hK; go_wp2; exact hw')); simp only [Act.put, List.setIfInBounds_toArray, List.set_cons_succ, List.set_cons_zero]))
  refine Ear.Pl.wpQ_run (by rfl) ?_; apply Exists.intro; refine ⟨fun K Q hK w' hw' => ?_, ?_⟩; (focus (simp only [Act.put, List.setIfInBounds_toArray, List.set_cons_succ, List.set_cons_zero] at hK; go_wp2_with (refine (Within_calls heard t.n _).mono ?_; rintro e w'' ⟨rfl, hb''⟩); exact hC2.out _ _ hw' hb'')); simp only [Act.put, List.setIfInBounds_toArray, List.set_cons_succ, List.set_cons_zero]
  (iterate 1 (refine Ear.Pl.wpQ_run (by rfl) ?_; apply Exists.intro; refine ⟨fun K Q hK w' hw' => ?_, ?_⟩; (focus (obtain ⟨hc', hf'⟩ := Ear.bcell (hC1.out w' hw'); simp only [Act.put, List.setIfInBounds_toArray, List.set_cons_succ, List.set_cons_zero] at hK; go_wp2; exact hw')); simp only [Act.put, List.setIfInBounds_toArray, List.set_cons_succ, List.set_cons_zero]))
  refine Ear.Pl.wpQ_nil ?_
  intro w1 hb1
  clear hC1 hC2
  have hB' : Below w.heap.size w w1 := Below.trans (by (repeat' (first | (with_reducible exact Below.refl _ _) | (with_reducible assumption) | (show Below 0 _ _; with_reducible refine Below.mono (by assumption) (Nat.zero_le _)) | (with_reducible refine below_setRow ?_ ?_ _) | (with_reducible refine Below.alloc ?_ ?_ _) | (with_reducible refine Below.drew ?_) | (with_reducible refine Below.setCell ?_ ?_ _) | (with_reducible refine Below.frame ?_ _) | (with_reducible exact Nat.le_refl _) | omega | (simp only [World.size_alloc, World.size_setCell, World.size_drew, setRow_size]; omega) | (simp; omega) | (simp; done)))) (hb1.mono (by (try simp only [World.size_alloc, World.size_setCell, World.size_drew, setRow_size]); omega)); clear hb1; (try clear hB hs); have hB := hB'; clear hB'; have hs := hB.size
  go_wp2
  go_ret
  exact ⟨rfl, hB⟩
set_option maxRecDepth 100000 in
set_option maxHeartbeats 1000000 in
theorem Take3_calls {w : World} {B lo cap b1 b2 : Nat} {base : Option Addr} {t : Tl} {round : Int} (h : TlAt w B lo base cap t) (h1 : Ear.Blk w b1 3 [.int .i64 round]) (h2 : Ear.Blk w b2 31 [.pointer (some ⟨B, 0, none⟩)]) :
    Calls Try.prog 44 #[.pointer (some ⟨b1, 0, none⟩), .pointer (some ⟨b2, 0, none⟩)] w fun e w' => e = .returned (.bool (round != t.round)) ∧ Below w.heap.size w w' := by
  have hc := h.blk.cell
  have h1c := h1.cell
  have h2c := h2.cell
  clear h h1 h2
  go_enter Try.func44, Try.ntmps44
  go_wp2
  refine Ear.Pl.wp_region_qs 6 (by kernel_rfl) (by kernel_rfl) ?_; simp only [List.take_succ_cons, List.take_zero, List.drop_succ_cons, List.drop_zero]
  (iterate 6 (refine Ear.Pl.wpQ_run (by rfl) ?_; apply Exists.intro; refine ⟨fun K Q hK w' hw' => ?_, ?_⟩; (focus (subst hw'; simp only [Act.put, List.setIfInBounds_toArray, List.set_cons_succ, List.set_cons_zero] at hK; go_wp2; try rfl)); simp only [Act.put, List.setIfInBounds_toArray, List.set_cons_succ, List.set_cons_zero]))
  refine Ear.Pl.wpQ_nil ?_
  rintro w' rfl
  go_wp2
  go_ret
  exact ⟨rfl, by go_grown⟩
set_option maxRecDepth 100000 in
set_option maxHeartbeats 1000000 in
theorem Take4_calls {w : World} {B lo cap b1 b2 : Nat} {base : Option Addr} {t : Tl} {from_ : Int} (h : TlAt w B lo base cap t) (h1 : Ear.Blk w b1 3 [.int .i64 from_]) (h2 : Ear.Blk w b2 31 [.pointer (some ⟨B, 0, none⟩)]) :
    Calls Try.prog 45 #[.pointer (some ⟨b2, 0, none⟩), .pointer (some ⟨b1, 0, none⟩)] w fun e w' => e = .returned (.bool (hasV t.rep from_)) ∧ Below w.heap.size w w' := by
  have hc := h.blk.cell
  have hlt := h.blk.lt
  have h1c := h1.cell
  have h1l := h1.lt
  have h2c := h2.cell
  have h2l := h2.lt
  clear h h1 h2
  go_enter Try.func45, Try.ntmps45
  go_wp2
  refine Ear.Pl.wp_region_qb 6 (by kernel_rfl) (by kernel_rfl) (fun C hC1 hC2 => ?_); simp only [List.take_succ_cons, List.take_zero, List.drop_succ_cons, List.drop_zero]
  (iterate 5 (refine Ear.Pl.wpQ_run (by rfl) ?_; apply Exists.intro; refine ⟨fun K Q hK w' hw' => ?_, ?_⟩; (focus (obtain ⟨hc', hf'⟩ := Ear.bcell (hC1.out w' hw'); simp only [Act.put, List.setIfInBounds_toArray, List.set_cons_succ, List.set_cons_zero] at hK; go_wp2; exact hw')); simp only [Act.put, List.setIfInBounds_toArray, List.set_cons_succ, List.set_cons_zero]))
  refine Ear.Pl.wpQ_run (by rfl) ?_; apply Exists.intro; refine ⟨fun K Q hK w' hw' => ?_, ?_⟩; (focus (simp only [Act.put, List.setIfInBounds_toArray, List.set_cons_succ, List.set_cons_zero] at hK; go_wp2_with (refine (Has_val t.rep from_ _).mono ?_; rintro e w'' ⟨rfl, hb''⟩); exact hC2.out _ _ hw' hb'')); simp only [Act.put, List.setIfInBounds_toArray, List.set_cons_succ, List.set_cons_zero]
  refine Ear.Pl.wpQ_nil ?_
  intro w1 hb1
  clear hC1 hC2
  have hB' : Below w.heap.size w w1 := Below.trans (by (repeat' (first | (with_reducible exact Below.refl _ _) | (with_reducible assumption) | (show Below 0 _ _; with_reducible refine Below.mono (by assumption) (Nat.zero_le _)) | (with_reducible refine below_setRow ?_ ?_ _) | (with_reducible refine Below.alloc ?_ ?_ _) | (with_reducible refine Below.drew ?_) | (with_reducible refine Below.setCell ?_ ?_ _) | (with_reducible refine Below.frame ?_ _) | (with_reducible exact Nat.le_refl _) | omega | (simp only [World.size_alloc, World.size_setCell, World.size_drew, setRow_size]; omega) | (simp; omega) | (simp; done)))) (hb1.mono (by (try simp only [World.size_alloc, World.size_setCell, World.size_drew, setRow_size]); omega)); clear hb1; (try clear hB hs); have hB := hB'; clear hB'; have hs := hB.size
  go_wp2
  go_ret
  exact ⟨rfl, hB⟩
set_option maxRecDepth 100000 in
set_option maxHeartbeats 1000000 in
theorem Take5_calls {w : World} {B lo cap b2 : Nat} {base : Option Addr} {t : Tl} (h : TlAt w B lo base cap t) (h2 : Ear.Blk w b2 31 [.pointer (some ⟨B, 0, none⟩)]) :
    Calls Try.prog 47 #[.pointer (some ⟨b2, 0, none⟩)] w fun e w' => e = .returned (.bool (readyT t)) ∧ Below w.heap.size w w' := by
  have H := Lib.hid h
  have h2c := h2.cell
  clear h h2
  go_enter Try.func47, Try.ntmps47
  go_wp2_with (go_at_call 23; refine (Ready_at H.out).mono ?_; rintro e w' ⟨rfl, rfl⟩)
  go_ret
  exact ⟨rfl, by go_grown⟩
end Go.Proofs.Ytfnolmlmmimehaa
