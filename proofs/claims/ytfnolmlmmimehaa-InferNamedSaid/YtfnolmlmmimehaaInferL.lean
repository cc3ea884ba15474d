/-
  What Doubts of a book comes to.
-/
import Derived.Test.YtfnolmlmmimehaaBookX
import Derived.Test.YtfnolmlmmimehaaBookY
import Derived.Test.YtfnolmlmmimehaaBookT
namespace Go.Proofs.Ytfnolmlmmimehaa
set_option linter.unusedSimpArgs false
set_option linter.unusedVariables false
open Go.RowKit Go.Shelf
attribute [local go_sem] Oper.semAt_some
attribute [local irreducible] Ear.Pl.wpQ Ear.Pa.wpQ Ear.Fe.wpQ Ear.Fa.wpQ Ear.wd Ear.one Ear.clean
theorem Ear.wpListIn_world {F : Fence} {n : Nat} {P : Program} {ops : Array Oper} {l : List Oper} {Q : Exit → Act → World → Prop} {a : Act} {w : World} (Φ : World → Prop) (h : Φ w) (k : ∀ w', Φ w' → wpListIn F n P ops Q l a w') : wpListIn F n P ops Q l a w := k w h
/-- What a book says of a node that is doubted. -/
def doubtAt (L : List Nt) (k : Nat) : Option Nt := match L[k]? with | some y => if (y.kind == 1) = true then some ⟨y.of_, y.tag, 2⟩ else none | none => none
def doubtsP (L : List Nt) {v : BitVec 128} (pre : List (IdOf v)) : List Nt := pre.filterMap fun x => doubtAt L x.1
def doubtsOf (L : List Nt) (v : BitVec 128) : List Nt := doubtsP L (idsS v 100)
theorem doubtsP_nil (L : List Nt) (v : BitVec 128) : doubtsP L ([] : List (IdOf v)) = [] := rfl
theorem doubtsP_no {L : List Nt} {v : BitVec 128} (pre : List (IdOf v)) {x : IdOf v} (h : doubtAt L x.1 = none) : doubtsP L (pre ++ [x]) = doubtsP L pre := by
  unfold doubtsP; rw [List.filterMap_append]; simp [h]
theorem doubtsP_yes {L : List Nt} {v : BitVec 128} (pre : List (IdOf v)) {x : IdOf v} {y : Nt} (h : doubtAt L x.1 = some y) : doubtsP L (pre ++ [x]) = doubtsP L pre ++ [y] := by
  unfold doubtsP; rw [List.filterMap_append]; simp [h]
theorem doubtsP_len (L : List Nt) {v : BitVec 128} (pre : List (IdOf v)) : (doubtsP L pre).length ≤ pre.length := List.length_filterMap_le _ _
theorem doubtAt_out {L : List Nt} {k : Nat} (h : L.length ≤ k) : doubtAt L k = none := by
  unfold doubtAt; rw [List.getElem?_eq_none h]
theorem doubtAt_no {L : List Nt} {k : Nat} {y : Nt} (h : L[k]? = some y) (hk : (y.kind == 1) = false) : doubtAt L k = none := by
  unfold doubtAt; rw [h]; simp [hk]
theorem doubtAt_yes {L : List Nt} {k : Nat} {y : Nt} (h : L[k]? = some y) (hk : (y.kind == 1) = true) : doubtAt L k = some ⟨y.of_, y.tag, 2⟩ := by
  unfold doubtAt; rw [h]; simp [hk]
set_option maxRecDepth 100000 in
set_option maxHeartbeats 2000000 in
theorem At_no {w0 w : World} {bs : List Bk} {i : Nat} {b : Bk} {k : Int} (h : Books w0 w bs) (hi : bs[i]? = some b) (hx : k < 0 ∨ (b.L.length : Int) ≤ k) :
    Calls Try.prog 36 #[.pointer (some ⟨b.B, 0, none⟩), .int .i64 k] w fun e w' => e = .returned (.tuple #[.agg #[.int .i64 0, .int .i64 0, .int .i64 0], .int .i64 30]) ∧ Below w.heap.size w w' := by
  have H := Lib.hid (h.at_ i b hi).1
  clear h hi
  have h' : k < 0 ∨ (0 ≤ k ∧ (b.L.length : Int) ≤ k) := by omega
  clear hx
  rcases h' with h1 | ⟨h1, h2⟩
  all_goals
    go_enter Try.func36, Try.ntmps36
    go_wp2_with (go_at_call 71; (with_reducible refine Calls.mono (Size_at (H.out.below (by (repeat' (first | (with_reducible exact Below.refl _ _) | (with_reducible assumption) | (show Below 0 _ _; with_reducible refine Below.mono (by assumption) (Nat.zero_le _)) | (with_reducible refine below_setRow ?_ ?_ _) | (with_reducible refine Below.alloc ?_ ?_ _) | (with_reducible refine Below.drew ?_) | (with_reducible refine Below.setCell ?_ ?_ _) | (with_reducible refine Below.frame ?_ _) | (with_reducible exact Nat.le_refl _) | omega | (simp only [World.size_alloc, World.size_setCell, World.size_drew, setRow_size]; omega) | (simp; omega) | (simp; done)))))) ?_); rintro e w1 ⟨rfl, hb1⟩; have hB' : Below w.heap.size w w1 := Below.trans (by (repeat' (first | (with_reducible exact Below.refl _ _) | (with_reducible assumption) | (show Below 0 _ _; with_reducible refine Below.mono (by assumption) (Nat.zero_le _)) | (with_reducible refine below_setRow ?_ ?_ _) | (with_reducible refine Below.alloc ?_ ?_ _) | (with_reducible refine Below.drew ?_) | (with_reducible refine Below.setCell ?_ ?_ _) | (with_reducible refine Below.frame ?_ _) | (with_reducible exact Nat.le_refl _) | omega | (simp only [World.size_alloc, World.size_setCell, World.size_drew, setRow_size]; omega) | (simp; omega) | (simp; done)))) (hb1.mono (by (try simp only [World.size_alloc, World.size_setCell, World.size_drew, setRow_size]); omega)); have hr' := (show Ear.Blk w1 (w.heap.size) _ _ from by (repeat' (first | (show Ear.Blk _ _ _ _; with_reducible assumption) | (with_reducible exact Ear.Blk.new _ _ _) | (with_reducible refine Ear.Blk.new' ?_; (simp only [World.size_alloc, World.size_setCell, World.size_drew, setRow_size]; done)) | (with_reducible apply Ear.Blk.alloc) | (with_reducible apply Ear.Blk.drew) | (with_reducible apply Ear.Blk.setC) | (with_reducible apply Ear.Blk.setC' (e := by omega)) | (with_reducible apply Ear.Blk.rowC (e := by first | rfl | omega)) | (with_reducible apply Ear.Blk.otherRow) | (with_reducible apply Ear.Blk.other) | (with_reducible apply Ear.Blk.below (hb := hb1)) | (show _ ≠ _; (try simp only [World.size_alloc, World.size_setCell, World.size_drew, setRow_size]); omega) | (show _ < _; (try simp only [World.size_alloc, World.size_setCell, World.size_drew, setRow_size]); omega)))); clear hb1; (try clear hr_l); (try clear hr_c); (try clear hr_f); (try clear hr); have hr := hr'; clear hr'; (try simp only [List.set_cons_zero, List.set_cons_succ] at hr); have hr_l := hr.lt; have hr_c := hr.cell; have hr_f := hr.frozen; (try clear hB hs); have hB := hB'; clear hB'; have hs := hB.size)
    refine Ear.bp_world (Ear.Sh w.heap.size w [(w.heap.size, _, _)]) (.cons (by (repeat' (first | (show Ear.Blk _ _ _ _; with_reducible assumption) | (with_reducible exact Ear.Blk.new _ _ _) | (with_reducible refine Ear.Blk.new' ?_; (simp only [World.size_alloc, World.size_setCell, World.size_drew, setRow_size]; done)) | (with_reducible apply Ear.Blk.alloc) | (with_reducible apply Ear.Blk.drew) | (with_reducible apply Ear.Blk.setC) | (with_reducible apply Ear.Blk.setC' (e := by omega)) | (with_reducible apply Ear.Blk.rowC (e := by first | rfl | omega)) | (with_reducible apply Ear.Blk.otherRow) | (with_reducible apply Ear.Blk.other) | (show _ ≠ _; (try simp only [World.size_alloc, World.size_setCell, World.size_drew, setRow_size]); omega) | (show _ < _; (try simp only [World.size_alloc, World.size_setCell, World.size_drew, setRow_size]); omega)))) (.nil (by (repeat' (first | (with_reducible exact Below.refl _ _) | (with_reducible assumption) | (show Below 0 _ _; with_reducible refine Below.mono (by assumption) (Nat.zero_le _)) | (with_reducible refine below_setRow ?_ ?_ _) | (with_reducible refine Below.alloc ?_ ?_ _) | (with_reducible refine Below.drew ?_) | (with_reducible refine Below.setCell ?_ ?_ _) | (with_reducible refine Below.frame ?_ _) | (with_reducible exact Nat.le_refl _) | omega | (simp only [World.size_alloc, World.size_setCell, World.size_drew, setRow_size]; omega) | (simp; omega) | (simp; done)))))) ?_; (try clear hr_l); (try clear hr_c); (try clear hr_f); (try clear hr); (try clear hB hs); rintro w2 ⟨hr, hB⟩; replace hB : Below w.heap.size w w2 := hB; have hs := hB.size; (try simp only [List.set_cons_zero, List.set_cons_succ] at hr); have hr_l := hr.lt; have hr_c := hr.cell; have hr_f := hr.frozen
    refine bodyPost_ret (v := .tuple #[.agg #[.int .i64 0, .int .i64 0, .int .i64 0], .int .i64 30]) (by simp [results, Try.results36, go_sem, *]) rfl ⟨rfl, hB⟩
theorem At_id {w0 w : World} {bs : List Bk} {i : Nat} {b : Bk} {v : BitVec 128} {x : IdOf v} {y : Nt} (h : Books w0 w bs) (hi : bs[i]? = some b) (hx : b.L[x.1]? = some y) :
    Calls Try.prog 36 #[.pointer (some ⟨b.B, 0, none⟩), .int .i64 (idI x)] w fun e w' => e = .returned (.tuple #[.agg #[.int .i64 (y).of_, .int .i64 (y).tag, .int .i64 (y).kind], .int .i64 0]) ∧ Below w.heap.size w w' := At_bk h hi hx
theorem At_id_no {w0 w : World} {bs : List Bk} {i : Nat} {b : Bk} {v : BitVec 128} {x : IdOf v} (h : Books w0 w bs) (hi : bs[i]? = some b) (hx : b.L.length ≤ x.1) :
    Calls Try.prog 36 #[.pointer (some ⟨b.B, 0, none⟩), .int .i64 (idI x)] w fun e w' => e = .returned (.tuple #[.agg #[.int .i64 0, .int .i64 0, .int .i64 0], .int .i64 30]) ∧ Below w.heap.size w w' := At_no (k := idI x) h hi (.inr (by unfold idI; omega))
theorem blk_add {W : World} {B T : Nat} {xs : List Value} (h : Ear.Blk W B T xs) : ∀ j u, xs[j]? = some u → W.cell? ((⟨B, 0, none⟩ : Addr).add j) = some u := by
  intro j u hj
  have e : (⟨B, 0, none⟩ : Addr).add j = ⟨B, j, none⟩ := by unfold Addr.add; by_cases h : j = 0 <;> simp [h]
  rw [e, ← hj]
  exact h.cell j
structure DoubtsPost (L : List Nt) (v : BitVec 128) (w : World) (e : Ending) (w' : World) : Prop where
  at_ : ∃ base cap, (doubtsOf L v = [] → base = none ∧ cap = 0) ∧ e = .returned (.slice base (doubtsOf L v).length cap) ∧ w'.ownsRow w.heap.size 65 3 (.slice base (doubtsOf L v).length cap) (doubtsOf L v).length (ntsV (doubtsOf L v))
  below : Below w.heap.size w w'
attribute [local irreducible] doubtsP doubtAt
set_option maxRecDepth 100000 in
set_option maxHeartbeats 8000000 in
theorem Doubts_calls {w0 w : World} {bs : List Bk} (i : Nat) {B g cp : Nat} {L : List Nt} (v : BitVec 128) (h : Books w0 w bs) (hi : bs[i]? = some ⟨B, g, cp, L⟩) :
    Calls Try.prog 33 #[.pointer (some ⟨B, 0, none⟩), .agg #[.int .u32 (Ear.wd (v) 0), .int .u32 (Ear.wd (v) 1), .int .u32 (Ear.wd (v) 2), .int .u32 (Ear.wd (v) 3)]] w (DoubtsPost L v w) := by
  refine (callsIn_wide (n := 5)).1 ?_
  have H := Lib.hid h
  have HI' := Lib.hid hi
  obtain ⟨i0, hi, hz0, hz1, hz2⟩ := info_parts info_nt
  have HI := Lib.hid hi
  have HZ0 := Lib.hid hz0
  have HZ1 := Lib.hid hz1
  have HZ2 := Lib.hid hz2
  clear hi hz0 hz1 hz2 h
  refine callsIn_of_wp_marks Try.func33 rfl trivial ?_ rfl; simp only [Try.ntmps33, List.size_toArray, List.length_cons, List.length_nil, Nat.reduceAdd, Nat.reduceSub, Array.replicate_succ, Array.replicate_zero, List.push_toArray, List.append_toArray, List.nil_append, List.cons_append]
  gi_wp2_with (refine ⟨trivial, ?_⟩; gi_at_call 73; (with_reducible refine CallsIn.mono (callsIn_wide.2 (All_calls v _)) ?_); rintro e _ ⟨rfl, rfl⟩)
  refine Ear.wpIn_world (Ear.Sh w.heap.size w [(w.heap.size, _, _), (w.heap.size + 1 + 1, _, _), (w.heap.size + 1 + 1 + 1, _, _)]) (.cons (by (repeat' (first | (show Ear.Blk _ _ _ _; with_reducible assumption) | (with_reducible exact Ear.Blk.new _ _ _) | (with_reducible refine Ear.Blk.new' ?_; (simp only [World.size_alloc, World.size_setCell, World.size_drew, setRow_size]; done)) | (with_reducible apply Ear.Blk.alloc) | (with_reducible apply Ear.Blk.drew) | (with_reducible apply Ear.Blk.setC) | (with_reducible apply Ear.Blk.setC' (e := by omega)) | (with_reducible apply Ear.Blk.rowC (e := by first | rfl | omega)) | (with_reducible apply Ear.Blk.otherRow) | (with_reducible apply Ear.Blk.other) | (show _ ≠ _; (try simp only [World.size_alloc, World.size_setCell, World.size_drew, setRow_size]); omega) | (show _ < _; (try simp only [World.size_alloc, World.size_setCell, World.size_drew, setRow_size]); omega)))) (.cons (by (repeat' (first | (show Ear.Blk _ _ _ _; with_reducible assumption) | (with_reducible exact Ear.Blk.new _ _ _) | (with_reducible refine Ear.Blk.new' ?_; (simp only [World.size_alloc, World.size_setCell, World.size_drew, setRow_size]; done)) | (with_reducible apply Ear.Blk.alloc) | (with_reducible apply Ear.Blk.drew) | (with_reducible apply Ear.Blk.setC) | (with_reducible apply Ear.Blk.setC' (e := by omega)) | (with_reducible apply Ear.Blk.rowC (e := by first | rfl | omega)) | (with_reducible apply Ear.Blk.otherRow) | (with_reducible apply Ear.Blk.other) | (show _ ≠ _; (try simp only [World.size_alloc, World.size_setCell, World.size_drew, setRow_size]); omega) | (show _ < _; (try simp only [World.size_alloc, World.size_setCell, World.size_drew, setRow_size]); omega)))) (.cons (by (repeat' (first | (show Ear.Blk _ _ _ _; with_reducible assumption) | (with_reducible exact Ear.Blk.new _ _ _) | (with_reducible refine Ear.Blk.new' ?_; (simp only [World.size_alloc, World.size_setCell, World.size_drew, setRow_size]; done)) | (with_reducible apply Ear.Blk.alloc) | (with_reducible apply Ear.Blk.drew) | (with_reducible apply Ear.Blk.setC) | (with_reducible apply Ear.Blk.setC' (e := by omega)) | (with_reducible apply Ear.Blk.rowC (e := by first | rfl | omega)) | (with_reducible apply Ear.Blk.otherRow) | (with_reducible apply Ear.Blk.other) | (show _ ≠ _; (try simp only [World.size_alloc, World.size_setCell, World.size_drew, setRow_size]); omega) | (show _ < _; (try simp only [World.size_alloc, World.size_setCell, World.size_drew, setRow_size]); omega)))) (.nil (by (repeat' (first | (with_reducible exact Below.refl _ _) | (with_reducible assumption) | (show Below 0 _ _; with_reducible refine Below.mono (by assumption) (Nat.zero_le _)) | (with_reducible refine below_setRow ?_ ?_ _) | (with_reducible refine Below.alloc ?_ ?_ _) | (with_reducible refine Below.drew ?_) | (with_reducible refine Below.setCell ?_ ?_ _) | (with_reducible refine Below.frame ?_ _) | (with_reducible exact Nat.le_refl _) | omega | (simp only [World.size_alloc, World.size_setCell, World.size_drew, setRow_size]; omega) | (simp; omega) | (simp; done)))))))) ?_; (try clear hp_l); (try clear hp_c); (try clear hp_f); (try clear hp); (try clear ho_l); (try clear ho_c); (try clear ho_f); (try clear ho); (try clear hb_l); (try clear hb_c); (try clear hb_f); (try clear hb); (try clear hB hs); rintro w2 ⟨hp, ho, hb, hB⟩; replace hB : Below w.heap.size w w2 := hB; have hs := hB.size; (try simp only [List.set_cons_zero, List.set_cons_succ] at hp); (try simp only [List.set_cons_zero, List.set_cons_succ] at ho); (try simp only [List.set_cons_zero, List.set_cons_succ] at hb); have hp_l := hp.lt; have hp_c := hp.cell; have hp_f := hp.frozen; have ho_l := ho.lt; have ho_c := ho.cell; have ho_f := ho.frozen; have hb_l := hb.lt; have hb_c := hb.cell; have hb_f := hb.frozen
  have hs2 := hs
  have hp0 := hp
  have ho0 := ho
  have hb0 := hb
  have hb_l0 := hb_l
  refine' wpIn_rangeFunc_ownF rfl (by omega) (gf := 89) (lb := #[.pointer (some ⟨w.heap.size + 1 + 1 + 1, 0, none⟩)]) rfl trivial (enters_of Try.func89 (by kernel_rfl) rfl) (all_stops 4 (by omega) _ v _ hb0) kpB_t (kpB_b (Bn := w.heap.size + 1 + 1 + 1) (by first | omega | (simp; omega))) (Below.refl _ _) (fun _ => rfl) (fun pre W => ∃ base cap, (doubtsP L pre = [] → base = none ∧ cap = 0) ∧ Ear.Blk W w.heap.size 61 [.pointer (some ⟨B, 0, none⟩)] ∧ Ear.Blk W (w.heap.size + 1 + 1) 60 [.slice base (doubtsP L pre).length cap] ∧ W.ownsRow w2.heap.size 65 3 (.slice base (doubtsP L pre).length cap) (doubtsP L pre).length (ntsV (doubtsP L pre)) ∧ w2.heap.size ≤ W.heap.size ∧ Below w.heap.size w W) (fun c pre W => False) (fun s A B row hs hg hr => by obtain ⟨base, cap, hz, h0, h1, h2, h3, h4⟩ := hs; exact ⟨base, cap, hz, h0.ownF hg hr, h1.ownF hg hr, owns_ownF h2 hg hr, Nat.le_trans h3 hg.size, Below.ownF h4 hg h4.size (by omega) hr⟩) (fun c s A B row hs hg hr => hs) (⟨none, 0, fun _ => ⟨rfl, rfl⟩, hp0, by rw [doubtsP_nil]; exact ho0, by rw [doubtsP_nil]; exact World.ownsRow_nil _ _ _ _, Nat.le_refl _, hB⟩) _ ?assign ?body ?done ?stop
  case assign =>
    intro l x W K hK
    gi_wp2
    exact hK
  case body =>
    rintro l pre x W ⟨base, cap, hz, hp, ho, hown, hle, hB⟩ hl
    have hs := hB.size
    have hp_l := hp.lt
    have hp_c := hp.cell
    have ho_l := ho.lt
    obtain ⟨N, hN⟩ : ∃ N, doubtsP L pre = N := ⟨_, rfl⟩
    have hnl := doubtsP_len L pre
    rw [hN] at hnl ho hown hz
    have HN := Lib.hid hN
    have HOWN := Lib.hid hown
    clear hN hown hb0 hp0 ho0 hb hb_l hb_c hb_f
    by_cases hk : x.1 < L.length
    · obtain ⟨y, hy⟩ : ∃ y, L[x.1]? = some y := ⟨_, List.getElem?_eq_getElem hk⟩
      have HY := Lib.hid hy
      cases hkind : (y.kind == 1) with
      | false =>
        have hno : doubtsP L (pre ++ [x]) = N := by rw [doubtsP_no pre (doubtAt_no hy hkind)]; exact HN.out
        clear hy
        gi_wp2_with (refine ⟨trivial, ?_⟩; gi_at_call 36; (with_reducible refine CallsIn.mono (CallsIn.inRound l (callsIn_wide.2 (At_id (b := ⟨B, g, cp, L⟩) (H.out.call (by (repeat' (first | (with_reducible exact Below.refl _ _) | (with_reducible assumption) | (show Below 0 _ _; with_reducible refine Below.mono (by assumption) (Nat.zero_le _)) | (with_reducible refine below_setRow ?_ ?_ _) | (with_reducible refine Below.alloc ?_ ?_ _) | (with_reducible refine Below.drew ?_) | (with_reducible refine Below.setCell ?_ ?_ _) | (with_reducible refine Below.frame ?_ _) | (with_reducible exact Nat.le_refl _) | omega | (simp only [World.size_alloc, World.size_setCell, World.size_drew, setRow_size]; omega) | (simp; omega) | (simp; done))))) HI'.out HY.out))) ?_); rintro e w5 ⟨rfl, hb5⟩; have hs5 := hb5.size)
        refine (fun (hq : Below W.heap.size W _) => ⟨keeps_below hq, hq.block _ (by omega), base, cap, by rw [hno]; exact hz, hp.below hq hp_l, by rw [hno]; exact ho.below hq ho_l, by rw [hno]; exact owns_below HOWN.out hq, Nat.le_trans hle hq.size, hB.trans (hq.mono hs)⟩) ?_
        (repeat' (first | (with_reducible exact Below.refl _ _) | (with_reducible assumption) | (show Below 0 _ _; with_reducible refine Below.mono (by assumption) (Nat.zero_le _)) | (with_reducible refine below_setRow ?_ ?_ _) | (with_reducible refine Below.alloc ?_ ?_ _) | (with_reducible refine Below.drew ?_) | (with_reducible refine Below.setCell ?_ ?_ _) | (with_reducible refine Below.frame ?_ _) | (with_reducible exact Nat.le_refl _) | omega | (simp only [World.size_alloc, World.size_setCell, World.size_drew, setRow_size]; omega) | (simp; omega) | (simp; done)))
      | true =>
        have hyes : doubtsP L (pre ++ [x]) = N ++ [⟨y.of_, y.tag, 2⟩] := by rw [doubtsP_yes pre (doubtAt_yes hy hkind), HN.out]
        have HYES := Lib.hid hyes
        clear hy hyes
        gi_wp2_with (first
          | (refine ⟨trivial, ?_⟩; gi_at_call 36; (with_reducible refine CallsIn.mono (CallsIn.inRound l (callsIn_wide.2 (At_id (b := ⟨B, g, cp, L⟩) (H.out.call (by (repeat' (first | (with_reducible exact Below.refl _ _) | (with_reducible assumption) | (show Below 0 _ _; with_reducible refine Below.mono (by assumption) (Nat.zero_le _)) | (with_reducible refine below_setRow ?_ ?_ _) | (with_reducible refine Below.alloc ?_ ?_ _) | (with_reducible refine Below.drew ?_) | (with_reducible refine Below.setCell ?_ ?_ _) | (with_reducible refine Below.frame ?_ _) | (with_reducible exact Nat.le_refl _) | omega | (simp only [World.size_alloc, World.size_setCell, World.size_drew, setRow_size]; omega) | (simp; omega) | (simp; done))))) HI'.out HY.out))) ?_); rintro e w5 ⟨rfl, hb5⟩; have hs5 := hb5.size; have hB5 := hB.trans (hb5.mono hs); have ho5 := ho.below hb5 ho_l; have ho5_l := ho5.lt; have ho5_c := ho5.cell)
          | (gi_at_builtin; refine Ear.wpListIn_world (Ear.AndW (Ear.Sh w.heap.size w [(w.heap.size + 1 + 1, _, _), (w5.heap.size + 1, _, _)]) (fun W' => Below W.heap.size W W')) ⟨(.cons (by (repeat' (first | (show Ear.Blk _ _ _ _; with_reducible assumption) | (with_reducible exact Ear.Blk.new _ _ _) | (with_reducible refine Ear.Blk.new' ?_; (simp only [World.size_alloc, World.size_setCell, World.size_drew, setRow_size]; done)) | (with_reducible apply Ear.Blk.alloc) | (with_reducible apply Ear.Blk.drew) | (with_reducible apply Ear.Blk.setC) | (with_reducible apply Ear.Blk.setC' (e := by omega)) | (with_reducible apply Ear.Blk.rowC (e := by first | rfl | omega)) | (with_reducible apply Ear.Blk.otherRow) | (with_reducible apply Ear.Blk.other) | (show _ ≠ _; (try simp only [World.size_alloc, World.size_setCell, World.size_drew, setRow_size]); omega) | (show _ < _; (try simp only [World.size_alloc, World.size_setCell, World.size_drew, setRow_size]); omega)))) (.cons (by (repeat' (first | (show Ear.Blk _ _ _ _; with_reducible assumption) | (with_reducible exact Ear.Blk.new _ _ _) | (with_reducible refine Ear.Blk.new' ?_; (simp only [World.size_alloc, World.size_setCell, World.size_drew, setRow_size]; done)) | (with_reducible apply Ear.Blk.alloc) | (with_reducible apply Ear.Blk.drew) | (with_reducible apply Ear.Blk.setC) | (with_reducible apply Ear.Blk.setC' (e := by omega)) | (with_reducible apply Ear.Blk.rowC (e := by first | rfl | omega)) | (with_reducible apply Ear.Blk.otherRow) | (with_reducible apply Ear.Blk.other) | (show _ ≠ _; (try simp only [World.size_alloc, World.size_setCell, World.size_drew, setRow_size]); omega) | (show _ < _; (try simp only [World.size_alloc, World.size_setCell, World.size_drew, setRow_size]); omega)))) (.nil (by (repeat' (first | (with_reducible exact Below.refl _ _) | (with_reducible assumption) | (show Below 0 _ _; with_reducible refine Below.mono (by assumption) (Nat.zero_le _)) | (with_reducible refine below_setRow ?_ ?_ _) | (with_reducible refine Below.alloc ?_ ?_ _) | (with_reducible refine Below.drew ?_) | (with_reducible refine Below.setCell ?_ ?_ _) | (with_reducible refine Below.frame ?_ _) | (with_reducible exact Nat.le_refl _) | omega | (simp only [World.size_alloc, World.size_setCell, World.size_drew, setRow_size]; omega) | (simp; omega) | (simp; done))))))), (by (repeat' (first | (with_reducible exact Below.refl _ _) | (with_reducible assumption) | (show Below 0 _ _; with_reducible refine Below.mono (by assumption) (Nat.zero_le _)) | (with_reducible refine below_setRow ?_ ?_ _) | (with_reducible refine Below.alloc ?_ ?_ _) | (with_reducible refine Below.drew ?_) | (with_reducible refine Below.setCell ?_ ?_ _) | (with_reducible refine Below.frame ?_ _) | (with_reducible exact Nat.le_refl _) | omega | (simp only [World.size_alloc, World.size_setCell, World.size_drew, setRow_size]; omega) | (simp; omega) | (simp; done))))⟩ ?_; (try clear ho_l); (try clear ho_c); (try clear ho_f); (try clear ho); (try clear hy_l); (try clear hy_c); (try clear hy_f); (try clear hy); (try clear hb6); (try clear hB hs); rintro w6 ⟨⟨ho, hy, hB⟩, hb6⟩; replace hB : Below w.heap.size w w6 := hB; have hs := hB.size; (try simp only [List.set_cons_zero, List.set_cons_succ] at ho); (try simp only [List.set_cons_zero, List.set_cons_succ] at hy); have ho_l := ho.lt; have ho_c := ho.cell; have ho_f := ho.frozen; have hy_l := hy.lt; have hy_c := hy.cell; have hy_f := hy.frozen; have hown := owns_below HOWN.out hb6; refine wpListIn_append_own _ rfl _ _ 60 rfl w2.heap.size 65 i0 _ 3 24 Try.underlying60 HI.out HZ0.out HZ1.out HZ2.out rfl (by decide) _ _ _ rfl hown ⟨w5.heap.size + 1, 0, none⟩ 1 1 [.int .i64 y.of_, .int .i64 y.tag, .int .i64 2] rfl rfl ?c1 ?c2 ?c3 ?c4 ?c5 ?_))
        case c1 => exact blk_add hy
        case c2 => simp [Value.oneCell']
        case c3 => unfold maxLen; omega
        case c4 => omega
        case c5 => have := hb6.size; omega
        intro v' w3 hown' hgrow _
        have hs6 := hb6.size
        have hne := Ear.own_ne hown (B := w.heap.size + 1 + 1) (by omega)
        have hne1 := Ear.own_ne hown (B := w.heap.size) (by omega)
        have hne2 := Ear.own_ne hown (B := w.heap.size + 1 + 1 + 1) (by omega)
        have ho3 := ho.grown hgrow hne
        have hp3 := (hp.below hb6 hp_l).grown hgrow hne1
        have hk3 : KpB (w.heap.size + 1 + 1 + 1) W w3 := (hgrow.block _ (by omega) hne2).trans (hb6.block _ (by omega))
        have hko : KeepsOthers W w3 := (keeps_below hb6).trans (KeepsOthers.of_grownBy hgrow (owns_cells hown))
        have hB3 : Below w.heap.size w w3 := hB.grown hgrow hs (fun j hj => by have := (hown.lt j hj).1; omega)
        have hn3 : w2.heap.size ≤ w3.heap.size := by have := hgrow.size; omega
        obtain ⟨base', cap', rfl⟩ := owns_slice hown'
        have ho3_c := ho3.cell
        have ho3_f := ho3.frozen
        have HO := Lib.hid hown'
        clear hown hown' hgrow hne hne1 hne2 ho_c ho_f hy hy_c hy_f hy_l
        gi_wp2
        refine ⟨hko.trans (KeepsOthers.setCell _ _ _), (heap_setCell_other _ _ _ _ (by dsimp only; omega)).trans hk3, base', cap', by rw [HYES.out]; intro h; simp at h, hp3.other _ (by dsimp only; omega) _, ?_, ?_, ?_, hB3.setCell (by simp; omega) _⟩
        · rw [HYES.out, List.length_append, List.length_singleton]; exact ho3.setC
        · rw [HYES.out, List.length_append, List.length_singleton]
          have := owns_set HO.out (g := w.heap.size + 1 + 1) (i := 0) (u := .slice base' (N.length + 1) cap') (by omega)
          rw [ntsV_snoc]
          simpa [ntV] using this
        · exact Nat.le_trans hn3 (by simp)
    · have hno : doubtsP L (pre ++ [x]) = N := by rw [doubtsP_no pre (doubtAt_out (by omega))]; exact HN.out
      gi_wp2_with (refine ⟨trivial, ?_⟩; gi_at_call 36; (with_reducible refine CallsIn.mono (CallsIn.inRound l (callsIn_wide.2 (At_id_no (b := ⟨B, g, cp, L⟩) (H.out.call (by (repeat' (first | (with_reducible exact Below.refl _ _) | (with_reducible assumption) | (show Below 0 _ _; with_reducible refine Below.mono (by assumption) (Nat.zero_le _)) | (with_reducible refine below_setRow ?_ ?_ _) | (with_reducible refine Below.alloc ?_ ?_ _) | (with_reducible refine Below.drew ?_) | (with_reducible refine Below.setCell ?_ ?_ _) | (with_reducible refine Below.frame ?_ _) | (with_reducible exact Nat.le_refl _) | omega | (simp only [World.size_alloc, World.size_setCell, World.size_drew, setRow_size]; omega) | (simp; omega) | (simp; done))))) HI'.out (by show L.length ≤ x.1; omega)))) ?_); rintro e w5 ⟨rfl, hb5⟩; have hs5 := hb5.size)
      refine (fun (hq : Below W.heap.size W _) => ⟨keeps_below hq, hq.block _ (by omega), base, cap, by rw [hno]; exact hz, hp.below hq hp_l, by rw [hno]; exact ho.below hq ho_l, by rw [hno]; exact owns_below HOWN.out hq, Nat.le_trans hle hq.size, hB.trans (hq.mono hs)⟩) ?_
      (repeat' (first | (with_reducible exact Below.refl _ _) | (with_reducible assumption) | (show Below 0 _ _; with_reducible refine Below.mono (by assumption) (Nat.zero_le _)) | (with_reducible refine below_setRow ?_ ?_ _) | (with_reducible refine Below.alloc ?_ ?_ _) | (with_reducible refine Below.drew ?_) | (with_reducible refine Below.setCell ?_ ?_ _) | (with_reducible refine Below.frame ?_ _) | (with_reducible exact Nat.le_refl _) | omega | (simp only [World.size_alloc, World.size_setCell, World.size_drew, setRow_size]; omega) | (simp; omega) | (simp; done)))
  case done =>
    rintro D ys W hD rfl ⟨base, cap, hz, hp, hx, hown, hle, hB⟩ hK
    have hs := hB.size
    have hx_c := hx.cell
    have hx_f := hx.frozen
    gi_wp2
    refine ⟨by simp, .inl ⟨_, _, rfl, run_takeDeferred hK, ?_⟩⟩
    exact ⟨.slice base (doubtsP L (idsS v 100)).length cap, (by simp [results, Try.f33, go_sem]), ⟨base, cap, hz, rfl, owns_base (owns_ownF hown (grownBy_putObj' _ D (.deferred none)) (B := 0) (fun r e => by cases e; exact ⟨by omega, _, hK, rfl⟩)) (by omega)⟩, hB.grown (grownBy_putObj' _ D _) hB.size (fun k e => by cases e; omega)⟩
  case stop =>
    rintro D c pre W hD hp h hK
    exact h.elim
theorem Doubts_none {w0 w : World} {bs : List Bk} (i : Nat) {B g cp : Nat} {L : List Nt} {v : BitVec 128} (h : Books w0 w bs) (hi : bs[i]? = some ⟨B, g, cp, L⟩) (hd : doubtsOf L v = []) :
    Calls Try.prog 33 #[.pointer (some ⟨B, 0, none⟩), .agg #[.int .u32 (Ear.wd (v) 0), .int .u32 (Ear.wd (v) 1), .int .u32 (Ear.wd (v) 2), .int .u32 (Ear.wd (v) 3)]] w fun e w' => e = .returned (.slice none 0 0) ∧ Below w.heap.size w w' := by
  refine (Doubts_calls i v h hi).mono ?_
  rintro e w' ⟨⟨base, cap, hz, he, -⟩, hb⟩
  obtain ⟨rfl, rfl⟩ := hz hd
  rw [hd] at he
  exact ⟨he, hb⟩
end Go.Proofs.Ytfnolmlmmimehaa
