/-
  What News and Suspects of a book come to.
-/
import Derived.Test.YtfnolmlmmimehaaBookW
namespace Go.Proofs.Ytfnolmlmmimehaa
set_option linter.unusedSimpArgs false
set_option linter.unusedVariables false
open Go.RowKit Go.Shelf
attribute [local go_sem] Oper.semAt_some
attribute [local irreducible] Ear.Pl.wpQ Ear.Pa.wpQ Ear.Fe.wpQ Ear.Fa.wpQ
def freshB (x : Nt) : Bool := (x.tag == 0) && (x.kind == 1)
def newsOf (L : List Nt) : List Nt := L.filter fun x => !freshB x
theorem newsOf_snoc (L : List Nt) (x : Nt) : newsOf (L ++ [x]) = newsOf L ++ (if freshB x = true then [] else [x]) := by
  unfold newsOf
  rw [List.filter_append]
  cases h : freshB x <;> simp [h]
theorem newsOf_nil : newsOf [] = [] := rfl
theorem newsOf_len (L : List Nt) : (newsOf L).length ≤ L.length := List.length_filter_le _ _
/-- What News tells. -/
structure NewsPost (L : List Nt) (w : World) (e : Ending) (w' : World) : Prop where
  at_ : ∃ base cap, e = .returned (.slice base (newsOf L).length cap) ∧ w'.ownsRow w.heap.size 65 3 (.slice base (newsOf L).length cap) (newsOf L).length (ntsV (newsOf L))
  below : Below w.heap.size w w'
attribute [local irreducible] freshB newsOf
/-- The nodes of which a book has a suspicion. -/
def suspOf (L : List Nt) : BitVec 128 := L.foldl (fun s x => if x.kind = 2 then withV s x.of_ else s) 0#128
theorem suspOf_snoc (L : List Nt) (x : Nt) : suspOf (L ++ [x]) = if x.kind = 2 then withV (suspOf L) x.of_ else suspOf L := by
  unfold suspOf; rw [List.foldl_append]; rfl
theorem suspOf_nil : suspOf [] = 0#128 := rfl
attribute [local irreducible] suspOf withV withE Ear.wd Ear.one Ear.clean
set_option maxRecDepth 100000 in
set_option maxHeartbeats 4000000 in
theorem Suspects_calls {w0 w : World} {bs : List Bk} (i : Nat) {B g cap : Nat} {L : List Nt} (h : Books w0 w bs) (hi : bs[i]? = some ⟨B, g, cap, L⟩) :
    Calls Try.prog 35 #[.pointer (some ⟨B, 0, none⟩)] w fun e w' => e = .returned (.agg #[.int .u32 (Ear.wd (suspOf L) 0), .int .u32 (Ear.wd (suspOf L) 1), .int .u32 (Ear.wd (suspOf L) 2), .int .u32 (Ear.wd (suspOf L) 3)]) ∧ Below w.heap.size w w' := by
  refine (callsIn_wide (n := 5)).1 ?_
  have hm : L.length ≤ 100 := (h.at_ i _ hi).2.2.most
  have H := Lib.hid h
  have HI' := Lib.hid hi
  clear h hi
  refine callsIn_of_wp_marks Try.func35 rfl trivial ?_ rfl; simp only [Try.ntmps35, List.size_toArray, List.length_cons, List.length_nil, Nat.reduceAdd, Nat.reduceSub, Array.replicate_succ, Array.replicate_zero, List.push_toArray, List.append_toArray, List.nil_append, List.cons_append]
  gi_wp2_with (refine ⟨trivial, ?_⟩; gi_at_call 75; (with_reducible refine CallsIn.mono (callsIn_wide.2 (BAll_calls i (H.out.call (by (repeat' (first | (with_reducible exact Below.refl _ _) | (with_reducible assumption) | (show Below 0 _ _; with_reducible refine Below.mono (by assumption) (Nat.zero_le _)) | (with_reducible refine below_setRow ?_ ?_ _) | (with_reducible refine Below.alloc ?_ ?_ _) | (with_reducible refine Below.drew ?_) | (with_reducible refine Below.setCell ?_ ?_ _) | (with_reducible refine Below.frame ?_ _) | (with_reducible exact Nat.le_refl _) | omega | (simp only [World.size_alloc, World.size_setCell, World.size_drew, setRow_size]; omega) | (simp; omega) | (simp; done))))) HI'.out)) ?_); rintro e w1 ⟨Bn, g1, p1, rfl, hbn, hlies, hg1, hBn, hgl, hb1⟩; have hB' : Below w.heap.size w w1 := Below.trans (by (repeat' (first | (with_reducible exact Below.refl _ _) | (with_reducible assumption) | (show Below 0 _ _; with_reducible refine Below.mono (by assumption) (Nat.zero_le _)) | (with_reducible refine below_setRow ?_ ?_ _) | (with_reducible refine Below.alloc ?_ ?_ _) | (with_reducible refine Below.drew ?_) | (with_reducible refine Below.setCell ?_ ?_ _) | (with_reducible refine Below.frame ?_ _) | (with_reducible exact Nat.le_refl _) | omega | (simp only [World.size_alloc, World.size_setCell, World.size_drew, setRow_size]; omega) | (simp; omega) | (simp; done)))) (hb1.mono (by (try simp only [World.size_alloc, World.size_setCell, World.size_drew, setRow_size]); omega)); have hr' := (show Ear.Blk w1 (w.heap.size) _ _ from by (repeat' (first | (show Ear.Blk _ _ _ _; with_reducible assumption) | (with_reducible exact Ear.Blk.new _ _ _) | (with_reducible refine Ear.Blk.new' ?_; (simp only [World.size_alloc, World.size_setCell, World.size_drew, setRow_size]; done)) | (with_reducible apply Ear.Blk.alloc) | (with_reducible apply Ear.Blk.drew) | (with_reducible apply Ear.Blk.setC) | (with_reducible apply Ear.Blk.setC' (e := by omega)) | (with_reducible apply Ear.Blk.rowC (e := by first | rfl | omega)) | (with_reducible apply Ear.Blk.otherRow) | (with_reducible apply Ear.Blk.other) | (with_reducible apply Ear.Blk.below (hb := hb1)) | (show _ ≠ _; (try simp only [World.size_alloc, World.size_setCell, World.size_drew, setRow_size]); omega) | (show _ < _; (try simp only [World.size_alloc, World.size_setCell, World.size_drew, setRow_size]); omega)))); have ho' := (show Ear.Blk w1 (w.heap.size + 1) _ _ from by (repeat' (first | (show Ear.Blk _ _ _ _; with_reducible assumption) | (with_reducible exact Ear.Blk.new _ _ _) | (with_reducible refine Ear.Blk.new' ?_; (simp only [World.size_alloc, World.size_setCell, World.size_drew, setRow_size]; done)) | (with_reducible apply Ear.Blk.alloc) | (with_reducible apply Ear.Blk.drew) | (with_reducible apply Ear.Blk.setC) | (with_reducible apply Ear.Blk.setC' (e := by omega)) | (with_reducible apply Ear.Blk.rowC (e := by first | rfl | omega)) | (with_reducible apply Ear.Blk.otherRow) | (with_reducible apply Ear.Blk.other) | (with_reducible apply Ear.Blk.below (hb := hb1)) | (show _ ≠ _; (try simp only [World.size_alloc, World.size_setCell, World.size_drew, setRow_size]); omega) | (show _ < _; (try simp only [World.size_alloc, World.size_setCell, World.size_drew, setRow_size]); omega)))); clear hb1; (try clear hr_l); (try clear hr_c); (try clear hr_f); (try clear hr); have hr := hr'; clear hr'; (try simp only [List.set_cons_zero, List.set_cons_succ] at hr); have hr_l := hr.lt; have hr_c := hr.cell; have hr_f := hr.frozen; (try clear ho_l); (try clear ho_c); (try clear ho_f); (try clear ho); have ho := ho'; clear ho'; (try simp only [List.set_cons_zero, List.set_cons_succ] at ho); have ho_l := ho.lt; have ho_c := ho.cell; have ho_f := ho.frozen; (try clear hB hs); have hB := hB'; clear hB'; have hs := hB.size)
  have hbn_l := hbn.lt
  simp only [World.size_alloc] at hg1 hBn
  have ho1 := ho
  have hr1 := hr
  clear hr_l hr_c hr_f ho_l ho_c ho_f
  refine' wpIn_rangeFunc_box rfl (by omega) (gf := 91) (lb := #[.pointer (some ⟨Bn, 0, none⟩)]) rfl trivial (enters_of Try.func91 (by kernel_rfl) rfl) (ball_stops 4 (by omega) _ _ _ L hm _ hbn hlies.out) kp2_t (kp2_b (Bn := Bn) (g := g1) (by first | omega | (simp; omega)) (by first | omega | (simp; omega))) (Below.refl _ _) (fun pre W => Ear.Blk W w.heap.size 26 [.int .u32 0, .int .u32 0, .int .u32 0, .int .u32 0] ∧ Ear.Blk W (w.heap.size + 1) 26 [.int .u32 (Ear.wd (suspOf pre) 0), .int .u32 (Ear.wd (suspOf pre) 1), .int .u32 (Ear.wd (suspOf pre) 2), .int .u32 (Ear.wd (suspOf pre) 3)] ∧ w1.heap.size ≤ W.heap.size ∧ Below w.heap.size w W) (fun c pre W => False) (fun s A B row hs hg hr => ⟨hs.1.ownF hg hr, hs.2.1.ownF hg hr, Nat.le_trans hs.2.2.1 hg.size, Below.ownF hs.2.2.2 hg hs.2.2.2.size (by omega) hr⟩) (fun c s A B row hs hg hr => hs) (⟨hr1, by rw [suspOf_nil, zeroWL]; exact ho1, Nat.le_refl _, hB⟩) 4 65 (ntV) (fun pre W h => h.2.2.1) (fun pre W o h => kp2_alloc (by have := h.2.2.1; omega) (by have := h.2.2.1; omega) o) ?assign ?body ?done ?stop
  case assign =>
    intro l x W K hK
    gi_wp2
    exact hK
  case body =>
    rintro l pre x bx W hlW _ ⟨hr, ho, hle, hB⟩ hbx hbxl hl
    simp only [boxAct, List.setIfInBounds_toArray, List.set_cons_succ, List.set_cons_zero]
    have hs := hB.size
    have hr_l := hr.lt
    have ho_l := ho.lt
    have ho_c := ho.cell
    have hbx_l := hbx.lt
    have hbx_c := hbx.cell
    simp only [ntV] at hbx_c
    obtain ⟨S, hS⟩ : ∃ S, suspOf pre = S := ⟨_, rfl⟩
    have hn := suspOf_snoc pre x
    rw [hS] at hn ho ho_c
    have HNS := Lib.hid hn
    clear hS hn
    by_cases hk : x.kind = 2
    · have e1 : (x.kind == 2) = true := beq_iff_eq.2 hk
      have HNEW := Lib.hid (show suspOf (pre ++ [x]) = withV S x.of_ from by rw [HNS.out, if_pos hk])
      clear hk
      gi_wp2_with (refine ⟨trivial, ?_⟩; gi_at_call 22; (with_reducible refine CallsIn.mono (CallsIn.inRound l (callsIn_wide.2 (With_val S x.of_ _))) ?_); rintro e w5 ⟨rfl, hB5⟩; have hr5 := hr.below hB5 hr_l; have ho5 := ho.below hB5 ho_l; have ho5_l := ho5.lt; have ho5_c := ho5.cell; have ho5_f := ho5.frozen; have hs5 := hB5.size; clear ho_c hbx_c)
      gi_wp2
      have hk5 : Kp2 Bn g1 W w5 := kp2_below hB5 (by omega) (by omega)
      have n1 : Bn ≠ w.heap.size + 1 := by omega
      have n2 : g1 ≠ w.heap.size + 1 := by omega
      have hblk := (((ho5.setC (i := 0) (v := .int .u32 (Ear.wd (withV S x.of_) 0))).setC (i := 1) (v := .int .u32 (Ear.wd (withV S x.of_) 1))).setC (i := 2) (v := .int .u32 (Ear.wd (withV S x.of_) 2))).setC (i := 3) (v := .int .u32 (Ear.wd (withV S x.of_) 3))
      refine ⟨(((((keeps_below hB5).trans (KeepsOthers.setCell _ _ _)).trans (KeepsOthers.setCell _ _ _)).trans (KeepsOthers.setCell _ _ _)).trans (KeepsOthers.setCell _ _ _)).from _, kp2_set (kp2_set (kp2_set (kp2_set hk5 n1 n2 _) n1 n2 _) n1 n2 _) n1 n2 _, ?_, by rw [HNEW.out]; exact hblk, by simp; omega, ((((hB.trans (hB5.mono hs)).setCell (by simp) _).setCell (by simp) _).setCell (by simp) _).setCell (by simp) _⟩
      exact (((hr5.other _ (by simp) _).other _ (by simp) _).other _ (by simp) _).other _ (by simp) _
    · have e1 : (x.kind == 2) = false := beq_eq_false_iff_ne.2 hk
      have hnew : suspOf (pre ++ [x]) = S := by rw [HNS.out, if_neg hk]
      clear hk
      gi_wp2
      exact ⟨KeepsFrom.refl _ _, ⟨rfl, rfl⟩, hr, by rw [hnew]; exact ho, hle, hB⟩
  case done =>
    rintro D ys W hD rfl ⟨hr, ho, hle, hB⟩ hK
    have hs := hB.size
    have hr_l := hr.lt
    have hr_f := hr.frozen
    have hr_c := hr.cell
    have ho_c := ho.cell
    gi_wp2
    have hK2 := ((((KeepsOthers.setCell W ⟨w.heap.size, 0, none⟩ (.int .u32 (Ear.wd (suspOf ys) 0))).trans (KeepsOthers.setCell _ ⟨w.heap.size, 1, none⟩ (.int .u32 (Ear.wd (suspOf ys) 1)))).trans (KeepsOthers.setCell _ ⟨w.heap.size, 2, none⟩ (.int .u32 (Ear.wd (suspOf ys) 2)))).trans (KeepsOthers.setCell _ ⟨w.heap.size, 3, none⟩ (.int .u32 (Ear.wd (suspOf ys) 3)))).same D _ hK rfl
    have hr' := (((hr.setC (i := 0) (v := .int .u32 (Ear.wd (suspOf ys) 0))).setC (i := 1) (v := .int .u32 (Ear.wd (suspOf ys) 1))).setC (i := 2) (v := .int .u32 (Ear.wd (suspOf ys) 2))).setC (i := 3) (v := .int .u32 (Ear.wd (suspOf ys) 3))
    have hB' := (((hB.setCell (p := ⟨w.heap.size, 0, none⟩) (by simp) (.int .u32 (Ear.wd (suspOf ys) 0))).setCell (p := ⟨w.heap.size, 1, none⟩) (by simp) (.int .u32 (Ear.wd (suspOf ys) 1))).setCell (p := ⟨w.heap.size, 2, none⟩) (by simp) (.int .u32 (Ear.wd (suspOf ys) 2))).setCell (p := ⟨w.heap.size, 3, none⟩) (by simp) (.int .u32 (Ear.wd (suspOf ys) 3))
    simp only [List.set_cons_zero, List.set_cons_succ] at hr'
    refine ⟨by simp, .inl ⟨_, _, rfl, run_takeDeferred hK2, ?_⟩⟩; have hr'_e := (hr'.own (grownBy_putObj' _ D (.deferred none)) (fun r e => by cases e; exact ⟨_, hK2, rfl⟩)).cell; refine ⟨.agg #[.int .u32 (Ear.wd (suspOf ys) 0), .int .u32 (Ear.wd (suspOf ys) 1), .int .u32 (Ear.wd (suspOf ys) 2), .int .u32 (Ear.wd (suspOf ys) 3)], (by first | exact results_tmp rfl _ _ _ | simp [results, Try.f35, go_sem, hr'_e]), rfl, hB'.grown (grownBy_putObj' _ D _) hB'.size (fun k e => by cases e; omega)⟩
  case stop =>
    rintro D c pre W hD hp h hK
    exact h.elim
end Go.Proofs.Ytfnolmlmmimehaa
