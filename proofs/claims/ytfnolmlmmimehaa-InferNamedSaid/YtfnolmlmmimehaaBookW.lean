/-
  All of a book: what is gone through.
-/
import Derived.Test.YtfnolmlmmimehaaBookU
import Derived.Test.YtfnolmlmmimehaaBox
namespace Go.Proofs.Ytfnolmlmmimehaa
set_option linter.unusedSimpArgs false
set_option linter.unusedVariables false
open Go.RowKit
attribute [local irreducible] Ear.Pl.wpQ Ear.Pa.wpQ Ear.Fe.wpQ Ear.Fa.wpQ
/-- A block and a row lie as they lay. -/
def Kp2 (Bn g : Nat) (A B : World) : Prop := B.heap[Bn]? = A.heap[Bn]? ∧ B.heap[g]? = A.heap[g]?
theorem kp2_t {Bn g : Nat} {A B C : World} (h : Kp2 Bn g A B) (k : Kp2 Bn g B C) : Kp2 Bn g A C := ⟨k.1.trans h.1, k.2.trans h.2⟩
theorem kp2_b {Bn g : Nat} {w : World} (hn : Bn < w.heap.size) (hg : g < w.heap.size) (W : World) (l : Nat) (o o' : Obj) (hl : w.heap.size ≤ l) (h : W.heap[l]? = some o) (_ : o.isCells = false) (_ : o.isWalk = false) : Kp2 Bn g W (W.putObj l o') :=
  ⟨World.putObj_heap_other (by omega), World.putObj_heap_other (by omega)⟩
theorem kp2_alloc {Bn g : Nat} {W : World} (hn : Bn < W.heap.size) (hg : g < W.heap.size) (o : Obj) : Kp2 Bn g W (W.alloc o) := ⟨Below.heap_alloc _ _ _ hn, Below.heap_alloc _ _ _ hg⟩
theorem kp2_set {Bn g : Nat} {A W : World} {p : Addr} (h : Kp2 Bn g A W) (hn : Bn ≠ p.block) (hg : g ≠ p.block) (v : Value) : Kp2 Bn g A (W.setCell p v) := kp2_t h ⟨heap_setCell_other _ _ _ _ hn, heap_setCell_other _ _ _ _ hg⟩
theorem kp2_below {Bn g : Nat} {W W' : World} (h : Below W.heap.size W W') (hn : Bn < W.heap.size) (hg : g < W.heap.size) : Kp2 Bn g W W' := ⟨h.block Bn hn, h.block g hg⟩
theorem LiesV.same {xs : List Value} {g : Nat} {W W' : World} (h : LiesV xs (some ⟨g, 0, none⟩) W) (he : W'.heap[g]? = W.heap[g]?) : LiesV xs (some ⟨g, 0, none⟩) W' := by
  intro i hi
  obtain ⟨B, o, hb, hB, hc⟩ := h i hi
  simp only [Option.some.injEq, Addr.mk.injEq] at hb
  obtain ⟨rfl, rfl, -⟩ := hb
  refine ⟨g, 0, rfl, ?_, (World.cell?_of_block he).trans hc⟩
  rw [Array.getElem?_eq_getElem hB] at he
  exact (Array.getElem?_eq_some_iff.1 he).1
theorem prefix_take {α : Type} (L : List α) (k : Nat) : L.take k <+: L := List.take_prefix k L
set_option maxRecDepth 100000 in
set_option maxHeartbeats 1000000 in
theorem ball1_in (n : Nat) (hn : 1 ≤ n) (l Bn g cap : Nat) (L : List Nt) (hL : L.length ≤ 100) (J Jx : List Nt → World → Prop) (hAb : ∀ s W W', J s W → Below W.heap.size W W' → J s W')
    (hY : ∀ pre x W, J pre W → pre.length < 100 → YieldAt Fence.wide (n - 1) Try.prog l #[.agg #[.int .i64 (x).of_, .int .i64 (x).tag, .int .i64 (x).kind]] W fun e W' =>
      (e = .returned (.bool true) ∧ J (pre ++ [x]) W' ∧ Kp2 Bn g W W') ∨ (e = .returned (.bool false) ∧ Jx (pre ++ [x]) W'))
    (W : World) (hBn : Ear.Blk W Bn 60 [.slice (some ⟨g, 0, none⟩) L.length cap]) (hg : LiesV (ntsV L) (some ⟨g, 0, none⟩) W) (h0 : J [] W) :
    CallsIn Fence.wide n Try.prog 91 #[.func (.yield l) #[] #[], .pointer (some ⟨Bn, 0, none⟩)] W fun e W' => (∃ v, e = .returned v) ∧
      ((∃ ys, ys = L ∧ J ys W') ∨ (∃ pre, pre <+: L ∧ Jx pre W')) := by
  have HAb := Lib.hid hAb
  have HY := Lib.hid hY
  have HG := Lib.hid hg
  clear hAb hY hg
  refine callsIn_of_wp Try.func91 rfl trivial ?_ rfl
  simp only [Try.ntmps91, List.size_toArray, List.length_cons, List.length_nil, Nat.reduceAdd, Nat.reduceSub, Array.replicate_succ, Array.replicate_zero, List.push_toArray, List.append_toArray, List.nil_append, List.cons_append]
  have hBn_c := hBn.cell
  gi_wp2
  clear hBn_c
  gi_loopw [7] (fun i wr => ∃ k : Nat, k ≤ L.length ∧ i = .int .i64 k ∧ Ear.Blk wr Bn 60 [.slice (some ⟨g, 0, none⟩) L.length cap] ∧ Hid (LiesV (ntsV L) (some ⟨g, 0, none⟩) wr) ∧ J (L.take k) wr) (fun i _ => L.length - (intOf i).toNat)
  case atStart => exact ⟨0, by omega, rfl, hBn, HG, by rw [List.take_zero]; exact h0⟩
  case round =>
    obtain ⟨k, hk, rfl, hx, HG', hJ⟩ := hrel
    have hxl := hx.lt
    have hJ0 := Lib.hid hJ
    clear hJ
    by_cases hlt : k < L.length
    · obtain ⟨x, hx'⟩ : ∃ x, L[k] = x := ⟨_, rfl⟩
      obtain ⟨hgl, a0, a1, a2⟩ := cells_at k hlt HG'.out (Below.refl _ _) (Nat.le_refl _) hx'
      have HS := Lib.hid (show L.take (k + 1) = L.take k ++ [x] from by rw [List.take_succ_eq_append_getElem hlt, hx'])
      have HW := Lib.hid (wrap_bk k L.length hlt (by omega))
      clear hx'
      obtain ⟨fn, tmps, assign, body, hy, hR⟩ := HY.out (L.take k) x (wr.alloc (.cells #[.int .i64 x.of_, .int .i64 x.tag, .int .i64 x.kind] 65)) (HAb.out _ _ _ hJ0.out ((Below.refl _ wr).alloc (Nat.le_refl _) _)) (by have := List.length_take_le k L; omega)
      have hR' := Lib.hid hR
      clear hR
      gi_wp2
      refine hR'.out.mono ?_
      rintro e W3 (⟨rfl, hJ3, hk3⟩ | ⟨rfl, hJx3⟩)
      · have hx3 : Ear.Blk W3 Bn 60 [.slice (some ⟨g, 0, none⟩) L.length cap] := hk3.1.trans (hx.below ((Below.refl _ wr).alloc (Nat.le_refl _) _) hxl)
        have HG3 := Lib.hid (((HG'.out).below ((Below.refl _ wr).alloc (Nat.le_refl _) _)).same hk3.2)
        have HJ3 := Lib.hid hJ3
        clear hk3 hJ3 hy hR'
        gi_wp2
        go_roundw
        case rel => exact ⟨k + 1, hlt, by go_num, hx3, HG3, by rw [HS.out]; exact HJ3.out⟩
        case measure => simp [intOf]; omega
      · have HJ3 := Lib.hid hJx3
        clear hJx3 hy hR'
        gi_wp2
        refine bodyPost_ret (results_none rfl _ _ _) rfl ?_
        exact ⟨⟨_, rfl⟩, .inr ⟨_, by rw [← HS.out]; exact prefix_take L (k + 1), HJ3.out⟩⟩
    · gi_wp2
      go_end0
      exact ⟨⟨_, rfl⟩, .inl ⟨_, rfl, by have := hJ0.out; rw [List.take_of_length_le (by omega)] at this; exact this⟩⟩
theorem ball_stops (n : Nat) (hn : 1 ≤ n) (Bn g cap : Nat) (L : List Nt) (hL : L.length ≤ 100) (w : World) (hc : Ear.Blk w Bn 60 [.slice (some ⟨g, 0, none⟩) L.length cap]) (hg : LiesV (ntsV L) (some ⟨g, 0, none⟩) w) :
    SeqStopsK Fence.wide n Try.prog 91 #[.pointer (some ⟨Bn, 0, none⟩)] (fun x : Nt => #[.agg #[.int .i64 (x).of_, .int .i64 (x).tag, .int .i64 (x).kind]]) (Kp2 Bn g) (fun ys => ys = L) (fun pre => pre <+: L) 100 w := fun l J Jx W hW hJ hJx hY h0 =>
  ball1_in n hn l Bn g cap L hL J Jx (fun _ _ _ hs hb => abides_below hJ hs hb) hY W (hc.below hW hc.lt) (hg.below hW) h0
set_option maxHeartbeats 1000000 in
theorem BAll_calls {w0 w : World} {bs : List Bk} (i : Nat) {B g cap : Nat} {L : List Nt} (h : Books w0 w bs) (hi : bs[i]? = some ⟨B, g, cap, L⟩) :
    Calls Try.prog 75 #[.pointer (some ⟨B, 0, none⟩)] w fun e w' => ∃ Bn g' cap', e = .returned (.func (.func 91) #[] #[.pointer (some ⟨Bn, 0, none⟩)]) ∧
      Ear.Blk w' Bn 60 [.slice (some ⟨g', 0, none⟩) L.length cap'] ∧ Hid (LiesV (ntsV L) (some ⟨g', 0, none⟩) w') ∧ w.heap.size ≤ g' ∧ w.heap.size ≤ Bn ∧ g' < w'.heap.size ∧ Below w.heap.size w w' := by
  have hpos := (h.at_ i _ hi).2.2.pos
  have H := Lib.hid h
  have HI := Lib.hid hi
  clear h hi
  go_enter Try.func75, Try.ntmps75
  go_wp2_with fail
  refine Calls.mono (List_N i H.out HI.out) ?_
  rintro e w1 ⟨g1, p1, rfl, hx, hg1, hb1⟩
  have hs1 := hb1.size
  have hgl : g1 < w1.heap.size := by
    obtain ⟨B', o, he, hB, -⟩ := hx.out 0 (by rw [ntsV_len]; omega)
    simp only [Option.some.injEq, Addr.mk.injEq] at he
    omega
  go_wp2
  go_ret
  have hb2 : Below w1.heap.size w1 (w1.alloc (.cells #[.slice (some ⟨g1, 0, none⟩) L.length p1] 60)) := (Below.refl _ _).alloc (Nat.le_refl _) _
  exact ⟨w1.heap.size, g1, p1, rfl, Ear.Blk.new w1 _ _, LiesV.below hx.out hb2, hg1, hs1, by simp; omega, hb1.trans (hb2.mono hs1)⟩
end Go.Proofs.Ytfnolmlmmimehaa
