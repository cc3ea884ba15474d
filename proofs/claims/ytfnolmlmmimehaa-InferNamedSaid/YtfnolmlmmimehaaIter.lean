/-
  The iterator over a set's ids: its contract.
-/
import Derived.RangeFuncNested
import Derived.RangeFuncBound
import Derived.RangeFuncCalls
import Derived.RangeFuncLeaves
import Derived.Shelf.Abstract
import Derived.Shelf.RegionOpen
import Derived.WalkKit
import Derived.OwnWalkIn
import Derived.TacticsInMore
import Derived.LoopNIn
import Derived.LoopIn
import Derived.Maps.AppendAt
import Derived.Test.YtfnolmlmmimehaaCut
namespace Go.Proofs.Ytfnolmlmmimehaa
set_option linter.unusedSimpArgs false
set_option linter.unusedVariables false
open Go.RowKit Go.Shelf
attribute [local go_sem] Oper.semAt_some
attribute [local irreducible] Ear.wd Ear.one Ear.clean
/-- An id of a set. -/
abbrev IdOf (v : BitVec 128) := { x : Nat // x < 100 ∧ v.getLsbD x = true }
def idsS (v : BitVec 128) (k : Nat) : List (IdOf v) := (List.range k).filterMap fun i => if h : i < 100 ∧ v.getLsbD i = true then some ⟨i, h⟩ else none
theorem idsS_zero (v : BitVec 128) : idsS v 0 = [] := rfl
theorem idsS_yes (v : BitVec 128) (k : Nat) (h : k < 100 ∧ v.getLsbD k = true) : idsS v (k + 1) = idsS v k ++ [⟨k, h⟩] := by
  unfold idsS; rw [List.range_succ, List.filterMap_append]; simp [h]
theorem idsS_no (v : BitVec 128) (k : Nat) (h : v.getLsbD k = false) : idsS v (k + 1) = idsS v k := by
  unfold idsS; rw [List.range_succ, List.filterMap_append]; simp [h]
def idI {v : BitVec 128} (x : IdOf v) : Int := (x.1 : Int)
theorem idsS_map (v : BitVec 128) (k : Nat) (hk : k ≤ 100) : (idsS v k).map idI = idsTo v k := by
  induction k with
  | zero => rfl
  | succ k ih =>
    rw [idsTo_succ]
    by_cases h : v.getLsbD k = true
    · rw [idsS_yes v k ⟨by omega, h⟩, if_pos h, List.map_append, ih (by omega)]; rfl
    · rw [idsS_no v k (by simpa using h), if_neg h, ih (by omega)]
theorem idsS_len (v : BitVec 128) (k : Nat) : (idsS v k).length ≤ k := by
  unfold idsS
  have := List.length_filterMap_le (fun i => if h : i < 100 ∧ v.getLsbD i = true then some (⟨i, h⟩ : IdOf v) else none) (List.range k)
  rw [List.length_range] at this
  exact this
theorem idsS_pre (v : BitVec 128) (k j : Nat) (h : k ≤ j) : idsS v k <+: idsS v j := by
  induction j with
  | zero => obtain rfl : k = 0 := by omega
            exact List.prefix_refl _
  | succ j ih =>
    by_cases hk : k = j + 1
    · subst hk; exact List.prefix_refl _
    · by_cases hb : v.getLsbD j = true
      · by_cases hj : j < 100
        · rw [idsS_yes v j ⟨hj, hb⟩]; exact (ih (by omega)).trans (List.prefix_append _ _)
        · have : idsS v (j + 1) = idsS v j := by unfold idsS; rw [List.range_succ, List.filterMap_append]; simp [hj]
          rw [this]; exact ih (by omega)
      · rw [idsS_no v j (by simpa using hb)]; exact ih (by omega)

/-- The block Bn lies as it lay. -/
def KpB (Bn : Nat) (A B : World) : Prop := B.heap[Bn]? = A.heap[Bn]?
theorem kpB_t {Bn : Nat} {A B C : World} (h : KpB Bn A B) (k : KpB Bn B C) : KpB Bn A C := k.trans h
theorem kpB_b {Bn : Nat} {w : World} (hn : Bn < w.heap.size) (W : World) (l : Nat) (o o' : Obj) (hl : w.heap.size ≤ l) (h : W.heap[l]? = some o) (_ : o.isCells = false) (_ : o.isWalk = false) : KpB Bn W (W.putObj l o') :=
  World.putObj_heap_other (by omega)
theorem below_grownBy {W W' : World} (h : Below W.heap.size W W') : W.grownBy W' none := ⟨h.os, h.tape, h.output, h.size, fun k hk _ => h.block k hk⟩
theorem abides_below {β : Type} {B : Nat} {J : β → World → Prop} (h : AbidesFrom B J) {s : β} {W W' : World} (hs : J s W) (hb : Below W.heap.size W W') : J s W' := h s W W' none hs (below_grownBy hb) (fun r e => by cases e)

set_option maxRecDepth 100000 in
set_option maxHeartbeats 1000000 in
theorem all1_in (n : Nat) (hn : 1 ≤ n) (l Bn : Nat) (v : BitVec 128) (J Jx : List (IdOf v) → World → Prop) (hAb : ∀ s W W', J s W → Below W.heap.size W W' → J s W')
    (hY : ∀ pre x W, J pre W → pre.length < 100 → YieldAt Fence.wide (n - 1) Try.prog l #[.int .i64 (idI x)] W fun e W' =>
      (e = .returned (.bool true) ∧ J (pre ++ [x]) W' ∧ KpB Bn W W') ∨ (e = .returned (.bool false) ∧ Jx (pre ++ [x]) W'))
    (W : World) (hBn : Ear.Blk W Bn 26 [.int .u32 (Ear.wd (v) 0), .int .u32 (Ear.wd (v) 1), .int .u32 (Ear.wd (v) 2), .int .u32 (Ear.wd (v) 3)]) (h0 : J [] W) :
    CallsIn Fence.wide n Try.prog 89 #[.func (.yield l) #[] #[], .pointer (some ⟨Bn, 0, none⟩)] W fun e W' => (∃ v, e = .returned v) ∧
      ((∃ ys, ys = idsS v 100 ∧ J ys W') ∨ (∃ pre, pre <+: idsS v 100 ∧ Jx pre W')) := by
  have HAb := Lib.hid hAb
  have HY := Lib.hid hY
  clear hAb hY
  refine callsIn_of_wp Try.func89 rfl trivial ?_ rfl
  simp only [Try.ntmps89, List.size_toArray, List.length_cons, List.length_nil, Nat.reduceAdd, Nat.reduceSub, Array.replicate_succ, Array.replicate_zero, List.push_toArray, List.append_toArray, List.nil_append, List.cons_append]
  gi_wp2
  gi_loopw [4] (fun i wr => ∃ k : Nat, k ≤ 100 ∧ i = .int .i64 k ∧ Ear.Blk wr Bn 26 [.int .u32 (Ear.wd (v) 0), .int .u32 (Ear.wd (v) 1), .int .u32 (Ear.wd (v) 2), .int .u32 (Ear.wd (v) 3)] ∧ J (idsS v k) wr) (fun i _ => 100 - (intOf i).toNat)
  case atStart => exact ⟨0, by omega, rfl, hBn, h0⟩
  case round =>
    obtain ⟨k, hk, rfl, hx, hJ⟩ := hrel
    have hxl := hx.lt
    by_cases hlt : k < 100
    · have hxc := hx.cell
      have hJ0 := Lib.hid hJ
      clear hJ
      obtain ⟨b, hb⟩ : ∃ b, v.getLsbD k = b := ⟨_, rfl⟩
      have HB := Lib.hid hb
      clear hb
      cases b
      · gi_wp2_with (refine ⟨trivial, ?_⟩; gi_at_call 46; with_reducible (refine CallsIn.mono (callsIn_wide.2 (Has_yes v (k : Int) (by omega) (by omega) _)) ?_); rintro e w1 ⟨rfl, hb1⟩; rw [Int.toNat_natCast, HB.out]; have hx1 := hx.below hb1 hxl; have hJ1 := Lib.hid (HAb.out _ _ _ hJ0.out hb1); clear hb1)
        refine ⟨fun _ h => (by cases h), ?_⟩
        gi_wp2
        go_roundw
        case rel => exact ⟨k + 1, hlt, by go_num, hx1, by rw [idsS_no v k HB.out]; exact hJ1.out⟩
        case measure => simp [intOf]; omega
      · gi_wp2_with fail
        refine ⟨trivial, ?_⟩
        with_reducible (refine CallsIn.mono (callsIn_wide.2 (Has_yes v (k : Int) (by omega) (by omega) _)) ?_)
        rintro e w1 ⟨rfl, hb1⟩
        rw [Int.toNat_natCast, HB.out]
        have hx1 := hx.below hb1 hxl
        have hJ1 := HAb.out _ _ _ hJ0.out hb1
        clear hb1
        obtain ⟨fn, tmps, assign, body, hy, hR⟩ := HY.out (idsS v k) ⟨k, hlt, HB.out⟩ w1 hJ1 (by have := idsS_len v k; omega)
        have hR' := Lib.hid hR
        clear hR hJ1
        simp only [idI] at hy
        gi_wp2
        refine hR'.out.mono ?_
        rintro e W3 (⟨rfl, hJ3, hk3⟩ | ⟨rfl, hJx3⟩)
        · have hx3 : Ear.Blk W3 Bn 26 [.int .u32 (Ear.wd (v) 0), .int .u32 (Ear.wd (v) 1), .int .u32 (Ear.wd (v) 2), .int .u32 (Ear.wd (v) 3)] := hk3.trans hx1
          have HJ3 := Lib.hid hJ3
          clear hk3 hJ3 hy hR'
          gi_wp2
          go_roundw
          case rel => exact ⟨k + 1, hlt, by go_num, hx3, by rw [idsS_yes v k ⟨hlt, HB.out⟩]; exact HJ3.out⟩
          case measure => simp [intOf]; omega
        · have HJ3 := Lib.hid hJx3
          clear hJx3 hy hR'
          gi_wp2
          refine bodyPost_ret (results_none rfl _ _ _) rfl ?_
          exact ⟨⟨_, rfl⟩, .inr ⟨_, by rw [← idsS_yes v k ⟨hlt, HB.out⟩]; exact idsS_pre v _ _ (by omega), HJ3.out⟩⟩
    · gi_wp2
      go_end0
      have hk' : k = 100 := by omega
      subst hk'
      exact ⟨⟨_, rfl⟩, .inl ⟨_, rfl, hJ⟩⟩

theorem All_calls (v : BitVec 128) (w : World) : Calls Try.prog 73 #[.agg #[.int .u32 (Ear.wd (v) 0), .int .u32 (Ear.wd (v) 1), .int .u32 (Ear.wd (v) 2), .int .u32 (Ear.wd (v) 3)]] w fun e w' => e = .returned (.func (.func 89) #[] #[.pointer (some ⟨w.heap.size, 0, none⟩)]) ∧ w' = w.alloc (.cells ([.int .u32 (Ear.wd (v) 0), .int .u32 (Ear.wd (v) 1), .int .u32 (Ear.wd (v) 2), .int .u32 (Ear.wd (v) 3)]).toArray 26) := by
  go_enter Try.func73, Try.ntmps73
  go_wp2
  go_ret
  exact ⟨rfl, rfl⟩
theorem all_stops (n : Nat) (hn : 1 ≤ n) (Bn : Nat) (v : BitVec 128) (w : World) (hc : Ear.Blk w Bn 26 [.int .u32 (Ear.wd (v) 0), .int .u32 (Ear.wd (v) 1), .int .u32 (Ear.wd (v) 2), .int .u32 (Ear.wd (v) 3)]) :
    SeqStopsK Fence.wide n Try.prog 89 #[.pointer (some ⟨Bn, 0, none⟩)] (fun x : IdOf v => #[Value.int .i64 (idI x)]) (KpB Bn) (fun ys => ys = idsS v 100) (fun pre => pre <+: idsS v 100) 100 w := fun l J Jx W hW hJ hJx hY h0 =>
  all1_in n hn l Bn v J Jx (fun _ _ _ hs hb => abides_below hJ hs hb) hY W (hc.below hW hc.lt) h0
theorem Ear.Blk.own {W W' : World} {b T : Nat} {cs : List Value} {row : Option Nat} (h : Ear.Blk W b T cs) (hg : W.grownBy W' row) (hr : ∀ r, row = some r → ∃ o : Obj, W.heap[r]? = some o ∧ o.isCells = false) : Ear.Blk W' b T cs :=
  h.grown hg (fun e => by obtain ⟨o, ho, hf⟩ := hr b e.symm; unfold Ear.Blk at h; rw [h] at ho; cases ho; cases hf)
theorem Ear.Blk.ownF {W W' : World} {b T B : Nat} {cs : List Value} {row : Option Nat} (h : Ear.Blk W b T cs) (hg : W.grownBy W' row) (hr : ∀ r, row = some r → B ≤ r ∧ ∃ o : Obj, W.heap[r]? = some o ∧ o.isCells = false) : Ear.Blk W' b T cs :=
  h.own hg (fun r e => (hr r e).2)
theorem Below.ownF {w W W' : World} {B n : Nat} {row : Option Nat} (h : Below n w W) (hg : W.grownBy W' row) (hn : n ≤ W.heap.size) (hB : n ≤ B) (hr : ∀ r, row = some r → B ≤ r ∧ ∃ o : Obj, W.heap[r]? = some o ∧ o.isCells = false) : Below n w W' :=
  h.grown hg hn (fun k e => by have := (hr k e).1; omega)

def leastI (v : BitVec 128) : Int := (ids v).head?.getD (-1)
theorem ids_eq (v : BitVec 128) : ids v = (idsS v 100).map idI := (idsS_map v 100 (by omega)).symm

theorem keeps_below {W W' : World} (h : Below W.heap.size W W') : KeepsOthers W W' := KeepsOthers.of_grownBy (below_grownBy h) (fun j o e => by cases e)
theorem owns_cells {W : World} {b e s n : Nat} {v : Value} {xs : List Value} (h : W.ownsRow b e s v n xs) : ∀ (j : Nat) (o : Obj), v.ownBlock = some j → W.heap[j]? = some o → o.isCells = true := by
  intro j o hj ho
  obtain ⟨hl, ⟨hv, hn⟩ | ⟨g, cap', cur, hv, hb1, hc, hr⟩⟩ := h
  · rw [hv] at hj; cases hj
  · rw [hv] at hj
    simp only [Value.ownBlock, Option.some.injEq] at hj
    subst hj
    rw [hc] at ho; cases ho; rfl
theorem owns_ownF {W W' : World} {b e s n B : Nat} {v : Value} {xs : List Value} {row : Option Nat} (h : W.ownsRow b e s v n xs) (hg : W.grownBy W' row) (hr : ∀ r, row = some r → B ≤ r ∧ ∃ o : Obj, W.heap[r]? = some o ∧ o.isCells = false) : W'.ownsRow b e s v n xs :=
  h.kept hg (by
    cases hv : v.ownBlock with
    | none => exact .inl rfl
    | some j =>
      refine .inr fun he => ?_
      obtain ⟨_, o, ho, hf⟩ := hr j he.symm
      rw [owns_cells h j o hv ho] at hf; cases hf)
theorem pre_get {α : Type} {q xs : List α} {x : α} (h : q ++ [x] <+: xs) (f : α → Int) : q.length < xs.length ∧ (xs.map f).getD q.length 0 = f x := by
  obtain ⟨t, rfl⟩ := h
  simp

def nthI (v : BitVec 128) (k : Int) : Int × Int := if 0 ≤ k ∧ k < (ids v).length then ((ids v).getD k.toNat 0, 0) else (0, 3)
theorem nth_no (v : BitVec 128) (k : Int) (h : k < 0 ∨ ((idsS v 100).length : Int) ≤ k) : nthI v k = (0, 3) := by
  unfold nthI
  rw [if_neg (by rw [ids_eq, List.length_map]; omega)]
theorem nth_yes (v : BitVec 128) (q : List (IdOf v)) (x : IdOf v) (h : q ++ [x] <+: idsS v 100) : nthI v q.length = (idI x, 0) := by
  obtain ⟨h1, h2⟩ := pre_get h idI
  unfold nthI
  rw [ids_eq, if_pos (by rw [List.length_map]; omega), Int.toNat_natCast, h2]
theorem wrap_zero {k : Int} {n : Nat} (hk : -9223372036854775808 ≤ k ∧ k ≤ 9223372036854775807) (hn : n < 100) : (wrap64 (k - n) == 0) = true → k = n := by
  intro h
  have := eq_of_beq h
  simp only [wrap64] at this
  omega
theorem wrap_sub {k : Int} {n : Nat} (hk : -9223372036854775808 ≤ k ∧ k ≤ 9223372036854775807) (hn : n < 100) : wrap64 (wrap64 (k - n) - 1) = wrap64 (k - (n + 1 : Nat)) := by
  simp only [wrap64]; omega
set_option maxRecDepth 100000 in
set_option maxHeartbeats 2000000 in
theorem Ids_calls (v : BitVec 128) (w : World) : Calls Try.prog 32 #[.agg #[.int .u32 (Ear.wd (v) 0), .int .u32 (Ear.wd (v) 1), .int .u32 (Ear.wd (v) 2), .int .u32 (Ear.wd (v) 3)]] w (idsPost v w) := by
  refine (callsIn_wide (n := 5)).1 ?_
  obtain ⟨i0, hi, hz0, hz1, hz2⟩ := info_parts info_int
  have HI := Lib.hid hi
  have HZ0 := Lib.hid hz0
  have HZ1 := Lib.hid hz1
  have HZ2 := Lib.hid hz2
  clear hi hz0 hz1 hz2
  refine callsIn_of_wp_marks Try.func32 rfl trivial ?_ rfl; simp only [Try.ntmps32, List.size_toArray, List.length_cons, List.length_nil, Nat.reduceAdd, Nat.reduceSub, Array.replicate_succ, Array.replicate_zero, List.push_toArray, List.append_toArray, List.nil_append, List.cons_append]
  gi_wp2_with (refine ⟨trivial, ?_⟩; gi_at_call 73; (with_reducible refine CallsIn.mono (callsIn_wide.2 (All_calls v _)) ?_); rintro e _ ⟨rfl, rfl⟩)
  refine Ear.wpIn_world (Ear.Sh w.heap.size w [(w.heap.size + 1, _, _), (w.heap.size + 1 + 1, _, _)]) (.cons (by (repeat' (first | (show Ear.Blk _ _ _ _; with_reducible assumption) | (with_reducible exact Ear.Blk.new _ _ _) | (with_reducible refine Ear.Blk.new' ?_; (simp only [World.size_alloc, World.size_setCell, World.size_drew, setRow_size]; done)) | (with_reducible apply Ear.Blk.alloc) | (with_reducible apply Ear.Blk.drew) | (with_reducible apply Ear.Blk.setC) | (with_reducible apply Ear.Blk.setC' (e := by omega)) | (with_reducible apply Ear.Blk.rowC (e := by first | rfl | omega)) | (with_reducible apply Ear.Blk.otherRow) | (with_reducible apply Ear.Blk.other) | (show _ ≠ _; (try simp only [World.size_alloc, World.size_setCell, World.size_drew, setRow_size]); omega) | (show _ < _; (try simp only [World.size_alloc, World.size_setCell, World.size_drew, setRow_size]); omega)))) (.cons (by (repeat' (first | (show Ear.Blk _ _ _ _; with_reducible assumption) | (with_reducible exact Ear.Blk.new _ _ _) | (with_reducible refine Ear.Blk.new' ?_; (simp only [World.size_alloc, World.size_setCell, World.size_drew, setRow_size]; done)) | (with_reducible apply Ear.Blk.alloc) | (with_reducible apply Ear.Blk.drew) | (with_reducible apply Ear.Blk.setC) | (with_reducible apply Ear.Blk.setC' (e := by omega)) | (with_reducible apply Ear.Blk.rowC (e := by first | rfl | omega)) | (with_reducible apply Ear.Blk.otherRow) | (with_reducible apply Ear.Blk.other) | (show _ ≠ _; (try simp only [World.size_alloc, World.size_setCell, World.size_drew, setRow_size]); omega) | (show _ < _; (try simp only [World.size_alloc, World.size_setCell, World.size_drew, setRow_size]); omega)))) (.nil (by (repeat' (first | (with_reducible exact Below.refl _ _) | (with_reducible assumption) | (show Below 0 _ _; with_reducible refine Below.mono (by assumption) (Nat.zero_le _)) | (with_reducible refine below_setRow ?_ ?_ _) | (with_reducible refine Below.alloc ?_ ?_ _) | (with_reducible refine Below.drew ?_) | (with_reducible refine Below.setCell ?_ ?_ _) | (with_reducible refine Below.frame ?_ _) | (with_reducible exact Nat.le_refl _) | omega | (simp only [World.size_alloc, World.size_setCell, World.size_drew, setRow_size]; omega) | (simp; omega) | (simp; done))))))) ?_; (try clear hx_l); (try clear hx_c); (try clear hx_f); (try clear hx); (try clear hb_l); (try clear hb_c); (try clear hb_f); (try clear hb); (try clear hB hs); rintro w2 ⟨hx, hb, hB⟩; replace hB : Below w.heap.size w w2 := hB; have hs := hB.size; (try simp only [List.set_cons_zero, List.set_cons_succ] at hx); (try simp only [List.set_cons_zero, List.set_cons_succ] at hb); have hx_l := hx.lt; have hx_c := hx.cell; have hx_f := hx.frozen; have hb_l := hb.lt; have hb_c := hb.cell; have hb_f := hb.frozen
  have hs2 := hs
  refine' wpIn_rangeFunc_ownF rfl (by omega) (gf := 89) (lb := #[.pointer (some ⟨w.heap.size + 1 + 1, 0, none⟩)]) rfl trivial (enters_of Try.func89 (by kernel_rfl) rfl) (all_stops 4 (by omega) _ v _ hb) kpB_t (kpB_b (Bn := w.heap.size + 1 + 1) (by first | omega | (simp; omega))) (Below.refl _ _) (fun _ => rfl) (fun pre W => ∃ base cap, Ear.Blk W (w.heap.size + 1) 35 [.slice base pre.length cap] ∧ W.ownsRow w2.heap.size 3 1 (.slice base pre.length cap) pre.length (intsV (pre.map idI)) ∧ w2.heap.size ≤ W.heap.size ∧ Below w.heap.size w W) (fun c pre W => False) (fun s A B row hs hg hr => by obtain ⟨base, cap, h1, h2, h3, h4⟩ := hs; exact ⟨base, cap, h1.ownF hg hr, owns_ownF h2 hg hr, Nat.le_trans h3 hg.size, Below.ownF h4 hg h4.size (by omega) hr⟩) (fun c s A B row hs hg hr => hs) (⟨none, 0, hx, World.ownsRow_nil _ _ _ _, Nat.le_refl _, hB⟩) _ ?assign ?body ?done ?stop
  case assign =>
    intro l x W K hK
    gi_wp2
    exact hK
  case body =>
    rintro l pre x W ⟨base, cap, hx, hown, hle, hB⟩ hl
    have hs := hB.size
    have hx_l := hx.lt
    have hx_c := hx.cell
    have hx_f := hx.frozen
    gi_wp2_with (gi_at_builtin; refine wpListIn_append_own _ rfl _ _ 35 rfl w2.heap.size 3 i0 (.int .i64 0) 1 8 Try.underlying35 HI.out HZ0.out HZ1.out HZ2.out rfl (by decide) _ _ _ rfl (hown.alloc _) ⟨W.heap.size, 0, none⟩ 1 1 [.int .i64 (idI x)] rfl rfl ?c1 ?c2 ?c3 ?c4 ?c5 ?_)
    case c1 => exact cell_one_new _ _ _
    case c2 => simp [Value.oneCell']
    case c3 => unfold maxLen; omega
    case c4 => omega
    case c5 => first | omega | (simp; omega)
    intro v' w3 hown' hgrow _
    have hne := Ear.own_ne (hown.alloc (.cells #[.int .i64 (idI x)] 3)) (B := w.heap.size + 1) (by omega)
    have hne' := Ear.own_ne (hown.alloc (.cells #[.int .i64 (idI x)] 3)) (B := w.heap.size + 1 + 1) (by omega)
    have hx3 := (hx.alloc _).grown hgrow hne
    have hk3 : KpB (w.heap.size + 1 + 1) W w3 := (hgrow.block _ (by first | omega | (simp; omega)) hne').trans (Below.heap_alloc W _ _ (by omega))
    have hko : KeepsOthers W w3 := (KeepsOthers.alloc W _).trans (KeepsOthers.of_grownBy hgrow (owns_cells (hown.alloc (.cells #[.int .i64 (idI x)] 3))))
    have hB3 : Below w.heap.size w w3 := (hB.alloc hB.size _).grown hgrow (by first | omega | (simp; omega)) (fun j hj => by have := (hown.lt j hj).1; omega)
    have hn3 : w2.heap.size ≤ w3.heap.size := by have := hgrow.size; simp at this; omega
    obtain ⟨base', cap', rfl⟩ := owns_slice hown'
    have hx3_c := hx3.cell
    have hx3_f := hx3.frozen
    have HO := Lib.hid hown'
    clear hown hown' hgrow hne hne' hx_c hx_f
    gi_wp2
    refine ⟨hko.trans (KeepsOthers.setCell _ _ _), (heap_setCell_other _ _ _ _ (by dsimp only; omega)).trans hk3, base', cap', ?_, ?_, ?_, hB3.setCell (by simp) _⟩
    · rw [List.length_append, List.length_singleton]; exact hx3.setC
    · rw [List.length_append, List.length_singleton, List.map_append]
      have := owns_set HO.out (g := w.heap.size + 1) (i := 0) (u := .slice base' (pre.length + 1) cap') (by omega)
      simpa [intsV] using this
    · exact Nat.le_trans hn3 (by simp)
  case done =>
    rintro D ys W hD rfl ⟨base, cap, hx, hown, hle, hB⟩ hK
    have hs := hB.size
    have hx_c := hx.cell
    have hx_f := hx.frozen
    gi_wp2
    have hlen : (idsS v 100).length = (ids v).length := by rw [ids_eq, List.length_map]
    rw [hlen, ← ids_eq] at hown
    simp only [hlen]
    refine ⟨by simp, .inl ⟨_, _, rfl, run_takeDeferred hK, ?_⟩⟩
    exact ⟨.slice base (ids v).length cap, (by simp [results, Try.f32, go_sem]), base, cap, rfl, owns_base (owns_ownF hown (grownBy_putObj' _ D (.deferred none)) (B := 0) (fun r e => by cases e; exact ⟨by omega, _, hK, rfl⟩)) (by omega), hB.grown (grownBy_putObj' _ D _) hB.size (fun k e => by cases e; omega)⟩
  case stop =>
    rintro D c pre W hD hp h hK
    exact h.elim
end Go.Proofs.Ytfnolmlmmimehaa
