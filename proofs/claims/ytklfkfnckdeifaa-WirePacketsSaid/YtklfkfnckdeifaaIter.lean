/-
  The iterator over a set's ids: its contract.
-/
import Derived.RangeFuncNested
import Derived.RangeFuncBound
import Derived.RangeFuncCalls
import Derived.RangeFuncLeaves
import Derived.Shelf.Abstract
import Derived.Shelf.RegionOpen
import Derived.WalkKit
import Derived.OwnWalkIn
import Derived.TacticsInMore
import Derived.LoopNIn
import Derived.LoopIn
import Derived.Maps.AppendAt
import Derived.Test.YtklfkfnckdeifaaCut
namespace Go.Proofs.Ytklfkfnckdeifaa
set_option linter.unusedSimpArgs false
set_option linter.unusedVariables false
open Go.RowKit Go.Shelf
attribute [local go_sem] Oper.semAt_some
attribute [local irreducible] Ear.wd Ear.one Ear.clean
/-- An id of a set. -/
abbrev IdOf (v : BitVec 128) := { x : Nat // x < 100 ∧ v.getLsbD x = true }
def idsS (v : BitVec 128) (k : Nat) : List (IdOf v) := (List.range k).filterMap fun i => if h : i < 100 ∧ v.getLsbD i = true then some ⟨i, h⟩ else none
theorem idsS_zero (v : BitVec 128) : idsS v 0 = [] := rfl
theorem idsS_yes (v : BitVec 128) (k : Nat) (h : k < 100 ∧ v.getLsbD k = true) : idsS v (k + 1) = idsS v k ++ [⟨k, h⟩] := by
  unfold idsS; rw [List.range_succ, List.filterMap_append]; simp [h]
theorem idsS_no (v : BitVec 128) (k : Nat) (h : v.getLsbD k = false) : idsS v (k + 1) = idsS v k := by
  unfold idsS; rw [List.range_succ, List.filterMap_append]; simp [h]
def idI {v : BitVec 128} (x : IdOf v) : Int := (x.1 : Int)
theorem idsS_map (v : BitVec 128) (k : Nat) (hk : k ≤ 100) : (idsS v k).map idI = idsTo v k := by
  induction k with
  | zero => rfl
  | succ k ih =>
    rw [idsTo_succ]
    by_cases h : v.getLsbD k = true
    · rw [idsS_yes v k ⟨by omega, h⟩, if_pos h, List.map_append, ih (by omega)]; rfl
    · rw [idsS_no v k (by simpa using h), if_neg h, ih (by omega)]
theorem idsS_len (v : BitVec 128) (k : Nat) : (idsS v k).length ≤ k := by
  unfold idsS
  have := List.length_filterMap_le (fun i => if h : i < 100 ∧ v.getLsbD i = true then some (⟨i, h⟩ : IdOf v) else none) (List.range k)
  rw [List.length_range] at this
  exact this
theorem idsS_pre (v : BitVec 128) (k j : Nat) (h : k ≤ j) : idsS v k <+: idsS v j := by
  induction j with
  | zero => obtain rfl : k = 0 := by omega
            exact List.prefix_refl _
  | succ j ih =>
    by_cases hk : k = j + 1
    · subst hk; exact List.prefix_refl _
    · by_cases hb : v.getLsbD j = true
      · by_cases hj : j < 100
        · rw [idsS_yes v j ⟨hj, hb⟩]; exact (ih (by omega)).trans (List.prefix_append _ _)
        · have : idsS v (j + 1) = idsS v j := by unfold idsS; rw [List.range_succ, List.filterMap_append]; simp [hj]
          rw [this]; exact ih (by omega)
      · rw [idsS_no v j (by simpa using hb)]; exact ih (by omega)

/-- The block Bn lies as it lay. -/
def KpB (Bn : Nat) (A B : World) : Prop := B.heap[Bn]? = A.heap[Bn]?
theorem kpB_t {Bn : Nat} {A B C : World} (h : KpB Bn A B) (k : KpB Bn B C) : KpB Bn A C := k.trans h
theorem kpB_b {Bn : Nat} {w : World} (hn : Bn < w.heap.size) (W : World) (l : Nat) (o o' : Obj) (hl : w.heap.size ≤ l) (h : W.heap[l]? = some o) (_ : o.isCells = false) (_ : o.isWalk = false) : KpB Bn W (W.putObj l o') :=
  World.putObj_heap_other (by omega)
theorem below_grownBy {W W' : World} (h : Below W.heap.size W W') : W.grownBy W' none := ⟨h.os, h.tape, h.output, h.size, fun k hk _ => h.block k hk⟩
theorem abides_below {β : Type} {B : Nat} {J : β → World → Prop} (h : AbidesFrom B J) {s : β} {W W' : World} (hs : J s W) (hb : Below W.heap.size W W') : J s W' := h s W W' none hs (below_grownBy hb) (fun r e => by cases e)

set_option maxRecDepth 100000 in
set_option maxHeartbeats 1000000 in
theorem all1_in (n : Nat) (hn : 1 ≤ n) (l Bn : Nat) (v : BitVec 128) (J Jx : List (IdOf v) → World → Prop) (hAb : ∀ s W W', J s W → Below W.heap.size W W' → J s W')
    (hY : ∀ pre x W, J pre W → pre.length < 100 → YieldAt Fence.wide (n - 1) Try.prog l #[.int .i64 (idI x)] W fun e W' =>
      (e = .returned (.bool true) ∧ J (pre ++ [x]) W' ∧ KpB Bn W W') ∨ (e = .returned (.bool false) ∧ Jx (pre ++ [x]) W'))
    (W : World) (hBn : Ear.Blk W Bn 30 [.int .u32 (Ear.wd (v) 0), .int .u32 (Ear.wd (v) 1), .int .u32 (Ear.wd (v) 2), .int .u32 (Ear.wd (v) 3)]) (h0 : J [] W) :
    CallsIn Fence.wide n Try.prog 74 #[.func (.yield l) #[] #[], .pointer (some ⟨Bn, 0, none⟩)] W fun e W' => (∃ v, e = .returned v) ∧
      ((∃ ys, ys = idsS v 100 ∧ J ys W') ∨ (∃ pre, pre <+: idsS v 100 ∧ Jx pre W')) := by
  have HAb := Lib.hid hAb
  have HY := Lib.hid hY
  clear hAb hY
  refine callsIn_of_wp Try.func74 rfl trivial ?_ rfl
  simp only [Try.ntmps74, List.size_toArray, List.length_cons, List.length_nil, Nat.reduceAdd, Nat.reduceSub, Array.replicate_succ, Array.replicate_zero, List.push_toArray, List.append_toArray, List.nil_append, List.cons_append]
  gi_wp2
  gi_loopw [4] (fun i wr => ∃ k : Nat, k ≤ 100 ∧ i = .int .i64 k ∧ Ear.Blk wr Bn 30 [.int .u32 (Ear.wd (v) 0), .int .u32 (Ear.wd (v) 1), .int .u32 (Ear.wd (v) 2), .int .u32 (Ear.wd (v) 3)] ∧ J (idsS v k) wr) (fun i _ => 100 - (intOf i).toNat)
  case atStart => exact ⟨0, by omega, rfl, hBn, h0⟩
  case round =>
    obtain ⟨k, hk, rfl, hx, hJ⟩ := hrel
    have hxl := hx.lt
    by_cases hlt : k < 100
    · have hxc := hx.cell
      have hJ0 := Lib.hid hJ
      clear hJ
      obtain ⟨b, hb⟩ : ∃ b, v.getLsbD k = b := ⟨_, rfl⟩
      have HB := Lib.hid hb
      clear hb
      cases b
      · gi_wp2_with (refine ⟨trivial, ?_⟩; gi_at_call 75; with_reducible (refine CallsIn.mono (callsIn_wide.2 (Has_yes v (k : Int) (by omega) (by omega) _)) ?_); rintro e w1 ⟨rfl, hb1⟩; rw [Int.toNat_natCast, HB.out]; have hx1 := hx.below hb1 hxl; have hJ1 := Lib.hid (HAb.out _ _ _ hJ0.out hb1); clear hb1)
        refine ⟨fun _ h => (by cases h), ?_⟩
        gi_wp2
        go_roundw
        case rel => exact ⟨k + 1, hlt, by go_num, hx1, by rw [idsS_no v k HB.out]; exact hJ1.out⟩
        case measure => simp [intOf]; omega
      · gi_wp2_with fail
        refine ⟨trivial, ?_⟩
        with_reducible (refine CallsIn.mono (callsIn_wide.2 (Has_yes v (k : Int) (by omega) (by omega) _)) ?_)
        rintro e w1 ⟨rfl, hb1⟩
        rw [Int.toNat_natCast, HB.out]
        have hx1 := hx.below hb1 hxl
        have hJ1 := HAb.out _ _ _ hJ0.out hb1
        clear hb1
        obtain ⟨fn, tmps, assign, body, hy, hR⟩ := HY.out (idsS v k) ⟨k, hlt, HB.out⟩ w1 hJ1 (by have := idsS_len v k; omega)
        have hR' := Lib.hid hR
        clear hR hJ1
        simp only [idI] at hy
        gi_wp2
        refine hR'.out.mono ?_
        rintro e W3 (⟨rfl, hJ3, hk3⟩ | ⟨rfl, hJx3⟩)
        · have hx3 : Ear.Blk W3 Bn 30 [.int .u32 (Ear.wd (v) 0), .int .u32 (Ear.wd (v) 1), .int .u32 (Ear.wd (v) 2), .int .u32 (Ear.wd (v) 3)] := hk3.trans hx1
          have HJ3 := Lib.hid hJ3
          clear hk3 hJ3 hy hR'
          gi_wp2
          go_roundw
          case rel => exact ⟨k + 1, hlt, by go_num, hx3, by rw [idsS_yes v k ⟨hlt, HB.out⟩]; exact HJ3.out⟩
          case measure => simp [intOf]; omega
        · have HJ3 := Lib.hid hJx3
          clear hJx3 hy hR'
          gi_wp2
          refine bodyPost_ret (results_none rfl _ _ _) rfl ?_
          exact ⟨⟨_, rfl⟩, .inr ⟨_, by rw [← idsS_yes v k ⟨hlt, HB.out⟩]; exact idsS_pre v _ _ (by omega), HJ3.out⟩⟩
    · gi_wp2
      go_end0
      have hk' : k = 100 := by omega
      subst hk'
      exact ⟨⟨_, rfl⟩, .inl ⟨_, rfl, hJ⟩⟩

theorem All_calls (v : BitVec 128) (w : World) : Calls Try.prog 67 #[.agg #[.int .u32 (Ear.wd (v) 0), .int .u32 (Ear.wd (v) 1), .int .u32 (Ear.wd (v) 2), .int .u32 (Ear.wd (v) 3)]] w fun e w' => e = .returned (.func (.func 74) #[] #[.pointer (some ⟨w.heap.size, 0, none⟩)]) ∧ w' = w.alloc (.cells ([.int .u32 (Ear.wd (v) 0), .int .u32 (Ear.wd (v) 1), .int .u32 (Ear.wd (v) 2), .int .u32 (Ear.wd (v) 3)]).toArray 30) := by
  go_enter Try.func67, Try.ntmps67
  go_wp2
  go_ret
  exact ⟨rfl, rfl⟩
theorem all_stops (n : Nat) (hn : 1 ≤ n) (Bn : Nat) (v : BitVec 128) (w : World) (hc : Ear.Blk w Bn 30 [.int .u32 (Ear.wd (v) 0), .int .u32 (Ear.wd (v) 1), .int .u32 (Ear.wd (v) 2), .int .u32 (Ear.wd (v) 3)]) :
    SeqStopsK Fence.wide n Try.prog 74 #[.pointer (some ⟨Bn, 0, none⟩)] (fun x : IdOf v => #[Value.int .i64 (idI x)]) (KpB Bn) (fun ys => ys = idsS v 100) (fun pre => pre <+: idsS v 100) 100 w := fun l J Jx W hW hJ hJx hY h0 =>
  all1_in n hn l Bn v J Jx (fun _ _ _ hs hb => abides_below hJ hs hb) hY W (hc.below hW hc.lt) h0
theorem Ear.Blk.own {W W' : World} {b T : Nat} {cs : List Value} {row : Option Nat} (h : Ear.Blk W b T cs) (hg : W.grownBy W' row) (hr : ∀ r, row = some r → ∃ o : Obj, W.heap[r]? = some o ∧ o.isCells = false) : Ear.Blk W' b T cs :=
  h.grown hg (fun e => by obtain ⟨o, ho, hf⟩ := hr b e.symm; unfold Ear.Blk at h; rw [h] at ho; cases ho; cases hf)
theorem Ear.Blk.ownF {W W' : World} {b T B : Nat} {cs : List Value} {row : Option Nat} (h : Ear.Blk W b T cs) (hg : W.grownBy W' row) (hr : ∀ r, row = some r → B ≤ r ∧ ∃ o : Obj, W.heap[r]? = some o ∧ o.isCells = false) : Ear.Blk W' b T cs :=
  h.own hg (fun r e => (hr r e).2)
theorem Below.ownF {w W W' : World} {B n : Nat} {row : Option Nat} (h : Below n w W) (hg : W.grownBy W' row) (hn : n ≤ W.heap.size) (hB : n ≤ B) (hr : ∀ r, row = some r → B ≤ r ∧ ∃ o : Obj, W.heap[r]? = some o ∧ o.isCells = false) : Below n w W' :=
  h.grown hg hn (fun k e => by have := (hr k e).1; omega)

def leastI (v : BitVec 128) : Int := (ids v).head?.getD (-1)
theorem ids_eq (v : BitVec 128) : ids v = (idsS v 100).map idI := (idsS_map v 100 (by omega)).symm

theorem keeps_below {W W' : World} (h : Below W.heap.size W W') : KeepsOthers W W' := KeepsOthers.of_grownBy (below_grownBy h) (fun j o e => by cases e)
theorem owns_cells {W : World} {b e s n : Nat} {v : Value} {xs : List Value} (h : W.ownsRow b e s v n xs) : ∀ (j : Nat) (o : Obj), v.ownBlock = some j → W.heap[j]? = some o → o.isCells = true := by
  intro j o hj ho
  obtain ⟨hl, ⟨hv, hn⟩ | ⟨g, cap', cur, hv, hb1, hc, hr⟩⟩ := h
  · rw [hv] at hj; cases hj
  · rw [hv] at hj
    simp only [Value.ownBlock, Option.some.injEq] at hj
    subst hj
    rw [hc] at ho; cases ho; rfl
theorem owns_ownF {W W' : World} {b e s n B : Nat} {v : Value} {xs : List Value} {row : Option Nat} (h : W.ownsRow b e s v n xs) (hg : W.grownBy W' row) (hr : ∀ r, row = some r → B ≤ r ∧ ∃ o : Obj, W.heap[r]? = some o ∧ o.isCells = false) : W'.ownsRow b e s v n xs :=
  h.kept hg (by
    cases hv : v.ownBlock with
    | none => exact .inl rfl
    | some j =>
      refine .inr fun he => ?_
      obtain ⟨_, o, ho, hf⟩ := hr j he.symm
      rw [owns_cells h j o hv ho] at hf; cases hf)
theorem pre_get {α : Type} {q xs : List α} {x : α} (h : q ++ [x] <+: xs) (f : α → Int) : q.length < xs.length ∧ (xs.map f).getD q.length 0 = f x := by
  obtain ⟨t, rfl⟩ := h
  simp

def nthI (v : BitVec 128) (k : Int) : Int × Int := if 0 ≤ k ∧ k < (ids v).length then ((ids v).getD k.toNat 0, 0) else (0, 3)
theorem nth_no (v : BitVec 128) (k : Int) (h : k < 0 ∨ ((idsS v 100).length : Int) ≤ k) : nthI v k = (0, 3) := by
  unfold nthI
  rw [if_neg (by rw [ids_eq, List.length_map]; omega)]
theorem nth_yes (v : BitVec 128) (q : List (IdOf v)) (x : IdOf v) (h : q ++ [x] <+: idsS v 100) : nthI v q.length = (idI x, 0) := by
  obtain ⟨h1, h2⟩ := pre_get h idI
  unfold nthI
  rw [ids_eq, if_pos (by rw [List.length_map]; omega), Int.toNat_natCast, h2]
theorem wrap_zero {k : Int} {n : Nat} (hk : -9223372036854775808 ≤ k ∧ k ≤ 9223372036854775807) (hn : n < 100) : (wrap64 (k - n) == 0) = true → k = n := by
  intro h
  have := eq_of_beq h
  simp only [wrap64] at this
  omega
theorem wrap_sub {k : Int} {n : Nat} (hk : -9223372036854775808 ≤ k ∧ k ≤ 9223372036854775807) (hn : n < 100) : wrap64 (wrap64 (k - n) - 1) = wrap64 (k - (n + 1 : Nat)) := by
  simp only [wrap64]; omega
end Go.Proofs.Ytklfkfnckdeifaa
