/-
  What the calls of package idset come to: the set of a list.
-/
import Derived.Test.YtjopmnfmifbmbaaSetsG
import Derived.WalkKit
import Derived.LoopTactic
import Derived.WalkSpells
import Derived.WalkLawsBesides
import Derived.Handy
import Derived.Lib.Hide
namespace Go.Proofs.Ytjopmnfmifbmbaa
set_option linter.unusedSimpArgs false
set_option linter.unusedVariables false
open Go.RowKit
attribute [local go_sem] eqSet
def ofL (l : List Int) : BitVec 128 := l.foldl (fun s x => Ear.clean s ||| Ear.one x.toNat) 0#128
def okL (l : List Int) : Prop := ∀ x ∈ l, 0 ≤ x ∧ x < 100
theorem ofL_snoc (l : List Int) (i : Nat) : ofL (l ++ [(i : Int)]) = Ear.clean (ofL l) ||| Ear.one i := by
  unfold ofL; rw [List.foldl_append]; rfl
theorem take_snocI (l : List Int) (k : Nat) (h : k < l.length) : l.take (k + 1) = l.take k ++ [l[k]] := List.take_succ_eq_append_getElem h
/-- Where a list of ints lies. -/
def Lies (l : List Int) (base : Option Addr) (w : World) : Prop := ∀ i, (h : i < l.length) → ∃ B o, base = some ⟨B, o, none⟩ ∧ B < w.heap.size ∧ w.cell? ⟨B, o + i, none⟩ = some (.int .i64 l[i])
theorem Lies.below {l : List Int} {base : Option Addr} {n : Nat} {w w' : World} (h : Lies l base w) (hb : Below n w w') (hn : ∀ i, i < l.length → ∀ B o, base = some ⟨B, o, none⟩ → B < n) : Lies l base w' := by
  intro i hi
  obtain ⟨B, o, e, hB, hc⟩ := h i hi
  exact ⟨B, o, e, by have := hb.size; omega, by rw [(hb.cell (p := ⟨B, o + i, none⟩) (hn i hi B o e))]; exact hc⟩
theorem Lies.read {l : List Int} {base : Option Addr} {w w' : World} (h : Lies l base w) (hb : Below w.heap.size w w') (k : Nat) (hk : k < l.length) (x : Int) (hx : l[k] = x) :
    ∃ B o, base = some ⟨B, o, none⟩ ∧ B < w.heap.size ∧ w'.cell? ⟨B, o + k, none⟩ = some (.int .i64 x) := by
  obtain ⟨B, o, e, hB, hc⟩ := h k hk
  exact ⟨B, o, e, hB, by rw [(hb.cell (p := ⟨B, o + k, none⟩) hB), hc, hx]⟩

/-- At a call's end: from here on a world of which this is known. -/
theorem bp_world {P : Program} {f : Func} {Q : Ending → World → Prop} {x : Exit} {a : Act} {w : World} (Φ : World → Prop) (h : Φ w) (k : ∀ w', Φ w' → bodyPost P f Q x a w') : bodyPost P f Q x a w := k w h

def ofPost (l : List Int) (w : World) (e : Ending) (w' : World) : Prop :=
  ((okL l ∧ e = .returned (.tuple #[.agg #[.int .u32 (Ear.wd (ofL l) 0), .int .u32 (Ear.wd (ofL l) 1), .int .u32 (Ear.wd (ofL l) 2), .int .u32 (Ear.wd (ofL l) 3)], .int .i64 0])) ∨ (¬ okL l ∧ e = .returned (.tuple #[.agg #[.int .u32 (Ear.wd (0#128) 0), .int .u32 (Ear.wd (0#128) 1), .int .u32 (Ear.wd (0#128) 2), .int .u32 (Ear.wd (0#128) 3)], .int .i64 30]))) ∧ Below w.heap.size w w'
theorem wrap_succ (k n : Nat) (h : k < n) (hn : n ≤ 5000) : wrap64 ((k : Int) + 1) = ((k + 1 : Nat) : Int) := by simp only [wrap64]; omega

set_option maxRecDepth 100000 in
set_option maxHeartbeats 1000000 in
theorem Of_calls (l : List Int) (base : Option Addr) (cap : Nat) (w : World) (hn : l.length ≤ 5000) (hl : Lies l base w) :
    Calls Try.prog 25 #[.slice base l.length cap] w (ofPost l w) := by
  have HL := Lib.hid hl
  clear hl
  go_enter Try.func25, Try.ntmps25
  go_wp2
  go_loopw [11] (fun i wr => ∃ k : Nat, k ≤ l.length ∧ i = .int .i64 k ∧ okL (l.take k) ∧ Below w.heap.size w wr ∧
    Ear.Blk wr w.heap.size 24 [.int .u32 0, .int .u32 0, .int .u32 0, .int .u32 0] ∧ Ear.Blk wr (w.heap.size + 1) 24 [.int .u32 (Ear.wd (ofL (l.take k)) 0), .int .u32 (Ear.wd (ofL (l.take k)) 1), .int .u32 (Ear.wd (ofL (l.take k)) 2), .int .u32 (Ear.wd (ofL (l.take k)) 3)]) (fun i _ => l.length - (intOf i).toNat)
  case atStart =>
    refine ⟨0, Nat.zero_le _, rfl, ?_, ?_, ?_, ?_⟩
    · intro x hx; simp at hx
    · go_grown
    · (repeat' (first | (show Ear.Blk _ _ _ _; with_reducible assumption) | ((with_reducible apply Ear.Blk.new'); (simp only [World.size_alloc, World.size_setCell, World.size_drew, setRow_size]; done)) | (with_reducible apply Ear.Blk.alloc) | (with_reducible apply Ear.Blk.drew) | (with_reducible apply Ear.Blk.set') | (with_reducible apply Ear.Blk.setRow') | (with_reducible apply Ear.Blk.otherRow) | (with_reducible apply Ear.Blk.other) | (show List.set _ _ _ = _; first | exact HSET.out | exact Ear.set_xor _ _ (by omega) | exact Ear.set_or _ _ (by omega) | rfl) | (show _ ≠ _; (try simp only [World.size_alloc, World.size_setCell, World.size_drew, setRow_size]); omega) | (show _ < _; (try simp only [World.size_alloc, World.size_setCell, World.size_drew, setRow_size]); omega)))
    · have h0 : ofL (List.take 0 l) = 0#128 := rfl
      simp only [h0, Ear.wd_zero]
      (repeat' (first | (show Ear.Blk _ _ _ _; with_reducible assumption) | ((with_reducible apply Ear.Blk.new'); (simp only [World.size_alloc, World.size_setCell, World.size_drew, setRow_size]; done)) | (with_reducible apply Ear.Blk.alloc) | (with_reducible apply Ear.Blk.drew) | (with_reducible apply Ear.Blk.set') | (with_reducible apply Ear.Blk.setRow') | (with_reducible apply Ear.Blk.otherRow) | (with_reducible apply Ear.Blk.other) | (show List.set _ _ _ = _; first | exact HSET.out | exact Ear.set_xor _ _ (by omega) | exact Ear.set_or _ _ (by omega) | rfl) | (show _ ≠ _; (try simp only [World.size_alloc, World.size_setCell, World.size_drew, setRow_size]); omega) | (show _ < _; (try simp only [World.size_alloc, World.size_setCell, World.size_drew, setRow_size]); omega)))
  case round =>
    obtain ⟨k, hk, rfl, hok, hB, hx_1, hy_1⟩ := hrel
    have HO := Lib.hid hok
    clear hok
    have hs := hB.size
    have hx_1_l := hx_1.lt
    have hy_1_l := hy_1.lt
    have hx_1_c0 := hx_1.cell 0; have hx_1_f0 := hx_1.frozen 0; have hx_1_c1 := hx_1.cell 1; have hx_1_f1 := hx_1.frozen 1; have hx_1_c2 := hx_1.cell 2; have hx_1_f2 := hx_1.frozen 2; have hx_1_c3 := hx_1.cell 3; have hx_1_f3 := hx_1.frozen 3
    have hy_1_c0 := hy_1.cell 0; have hy_1_f0 := hy_1.frozen 0; have hy_1_c1 := hy_1.cell 1; have hy_1_f1 := hy_1.frozen 1; have hy_1_c2 := hy_1.cell 2; have hy_1_f2 := hy_1.frozen 2; have hy_1_c3 := hy_1.cell 3; have hy_1_f3 := hy_1.frozen 3
    by_cases hlt : k < l.length
    · obtain ⟨x, hx⟩ : ∃ x, l[k] = x := ⟨_, rfl⟩
      obtain ⟨B, o, he, hBlt, hcell⟩ := HL.out.read hB k hlt x hx
      subst he
      have HW := Lib.hid (wrap_succ k l.length hlt hn)
      have HT := Lib.hid (take_snocI l k hlt)
      have HX := Lib.hid hx
      clear hx
      by_cases hin : 0 ≤ x ∧ x < 100
      · obtain ⟨i, rfl⟩ := Int.eq_ofNat_of_zero_le hin.1
        go_wp2_with (go_at_call 89; refine (With_yes _ i (by omega) _).mono ?_; rintro e w2 ⟨rfl, hb2⟩; have hB2 : Below w.heap.size w w2 := Below.trans (by go_grown) (hb2.mono (by (try simp only [World.size_alloc, World.size_setCell, World.size_drew, setRow_size]); omega)); have hs2 := hB2.size; have hx_2 : Ear.Blk w2 (w.heap.size) 24 ([.int .u32 0, .int .u32 0, .int .u32 0, .int .u32 0]) := (by (repeat' (first | (show Ear.Blk _ _ _ _; with_reducible assumption) | ((with_reducible apply Ear.Blk.new'); (simp only [World.size_alloc, World.size_setCell, World.size_drew, setRow_size]; done)) | (with_reducible apply Ear.Blk.alloc) | (with_reducible apply Ear.Blk.drew) | (with_reducible apply Ear.Blk.set') | (with_reducible apply Ear.Blk.setRow') | (with_reducible apply Ear.Blk.otherRow) | (with_reducible apply Ear.Blk.other) | (with_reducible apply Ear.Blk.below (hb := hb2)) | (show List.set _ _ _ = _; first | exact HSET.out | exact Ear.set_xor _ _ (by omega) | exact Ear.set_or _ _ (by omega) | rfl) | (show _ ≠ _; (try simp only [World.size_alloc, World.size_setCell, World.size_drew, setRow_size]); omega) | (show _ < _; (try simp only [World.size_alloc, World.size_setCell, World.size_drew, setRow_size]); omega)))); have hy_2 : Ear.Blk w2 (w.heap.size + 1) 24 ([.int .u32 (Ear.wd (ofL (l.take k)) 0), .int .u32 (Ear.wd (ofL (l.take k)) 1), .int .u32 (Ear.wd (ofL (l.take k)) 2), .int .u32 (Ear.wd (ofL (l.take k)) 3)]) := (by (repeat' (first | (show Ear.Blk _ _ _ _; with_reducible assumption) | ((with_reducible apply Ear.Blk.new'); (simp only [World.size_alloc, World.size_setCell, World.size_drew, setRow_size]; done)) | (with_reducible apply Ear.Blk.alloc) | (with_reducible apply Ear.Blk.drew) | (with_reducible apply Ear.Blk.set') | (with_reducible apply Ear.Blk.setRow') | (with_reducible apply Ear.Blk.otherRow) | (with_reducible apply Ear.Blk.other) | (with_reducible apply Ear.Blk.below (hb := hb2)) | (show List.set _ _ _ = _; first | exact HSET.out | exact Ear.set_xor _ _ (by omega) | exact Ear.set_or _ _ (by omega) | rfl) | (show _ ≠ _; (try simp only [World.size_alloc, World.size_setCell, World.size_drew, setRow_size]); omega) | (show _ < _; (try simp only [World.size_alloc, World.size_setCell, World.size_drew, setRow_size]); omega)))); clear hb2; have hx_2_l := hx_2.lt; have hx_2_c0 := hx_2.cell 0; have hx_2_f0 := hx_2.frozen 0; have hx_2_c1 := hx_2.cell 1; have hx_2_f1 := hx_2.frozen 1; have hx_2_c2 := hx_2.cell 2; have hx_2_f2 := hx_2.frozen 2; have hx_2_c3 := hx_2.cell 3; have hx_2_f3 := hx_2.frozen 3; have hy_2_l := hy_2.lt; have hy_2_c0 := hy_2.cell 0; have hy_2_f0 := hy_2.frozen 0; have hy_2_c1 := hy_2.cell 1; have hy_2_f1 := hy_2.frozen 1; have hy_2_c2 := hy_2.cell 2; have hy_2_f2 := hy_2.frozen 2; have hy_2_c3 := hy_2.cell 3; have hy_2_f3 := hy_2.frozen 3)
        go_roundw
        case rel =>
          refine ⟨k + 1, hlt, by go_num, ?_, by go_grown, ?_, ?_⟩
          · intro x hx
            rw [HT.out, HX.out] at hx
            rcases List.mem_append.1 hx with hx | hx
            · exact HO.out x hx
            · rw [List.mem_singleton.1 hx]; exact hin
          · (repeat' (first | (show Ear.Blk _ _ _ _; with_reducible assumption) | ((with_reducible apply Ear.Blk.new'); (simp only [World.size_alloc, World.size_setCell, World.size_drew, setRow_size]; done)) | (with_reducible apply Ear.Blk.alloc) | (with_reducible apply Ear.Blk.drew) | (with_reducible apply Ear.Blk.set') | (with_reducible apply Ear.Blk.setRow') | (with_reducible apply Ear.Blk.otherRow) | (with_reducible apply Ear.Blk.other) | (show List.set _ _ _ = _; first | exact HSET.out | exact Ear.set_xor _ _ (by omega) | exact Ear.set_or _ _ (by omega) | rfl) | (show _ ≠ _; (try simp only [World.size_alloc, World.size_setCell, World.size_drew, setRow_size]); omega) | (show _ < _; (try simp only [World.size_alloc, World.size_setCell, World.size_drew, setRow_size]); omega)))
          · rw [HT.out, HX.out, ofL_snoc]
            (repeat' (first | (show Ear.Blk _ _ _ _; with_reducible assumption) | ((with_reducible apply Ear.Blk.new'); (simp only [World.size_alloc, World.size_setCell, World.size_drew, setRow_size]; done)) | (with_reducible apply Ear.Blk.alloc) | (with_reducible apply Ear.Blk.drew) | (with_reducible apply Ear.Blk.set') | (with_reducible apply Ear.Blk.setRow') | (with_reducible apply Ear.Blk.otherRow) | (with_reducible apply Ear.Blk.other) | (show List.set _ _ _ = _; first | exact HSET.out | exact Ear.set_xor _ _ (by omega) | exact Ear.set_or _ _ (by omega) | rfl) | (show _ ≠ _; (try simp only [World.size_alloc, World.size_setCell, World.size_drew, setRow_size]); omega) | (show _ < _; (try simp only [World.size_alloc, World.size_setCell, World.size_drew, setRow_size]); omega)))
        case measure => simp [intOf]; omega
      · go_wp2_with (go_at_call 89; refine (With_no _ x (by omega) _).mono ?_; rintro e w2 ⟨rfl, hb2⟩; have hB2 : Below w.heap.size w w2 := Below.trans (by go_grown) (hb2.mono (by (try simp only [World.size_alloc, World.size_setCell, World.size_drew, setRow_size]); omega)); have hs2 := hB2.size; have hx_2 : Ear.Blk w2 (w.heap.size) 24 ([.int .u32 0, .int .u32 0, .int .u32 0, .int .u32 0]) := (by (repeat' (first | (show Ear.Blk _ _ _ _; with_reducible assumption) | ((with_reducible apply Ear.Blk.new'); (simp only [World.size_alloc, World.size_setCell, World.size_drew, setRow_size]; done)) | (with_reducible apply Ear.Blk.alloc) | (with_reducible apply Ear.Blk.drew) | (with_reducible apply Ear.Blk.set') | (with_reducible apply Ear.Blk.setRow') | (with_reducible apply Ear.Blk.otherRow) | (with_reducible apply Ear.Blk.other) | (with_reducible apply Ear.Blk.below (hb := hb2)) | (show List.set _ _ _ = _; first | exact HSET.out | exact Ear.set_xor _ _ (by omega) | exact Ear.set_or _ _ (by omega) | rfl) | (show _ ≠ _; (try simp only [World.size_alloc, World.size_setCell, World.size_drew, setRow_size]); omega) | (show _ < _; (try simp only [World.size_alloc, World.size_setCell, World.size_drew, setRow_size]); omega)))); have hy_2 : Ear.Blk w2 (w.heap.size + 1) 24 ([.int .u32 (Ear.wd (ofL (l.take k)) 0), .int .u32 (Ear.wd (ofL (l.take k)) 1), .int .u32 (Ear.wd (ofL (l.take k)) 2), .int .u32 (Ear.wd (ofL (l.take k)) 3)]) := (by (repeat' (first | (show Ear.Blk _ _ _ _; with_reducible assumption) | ((with_reducible apply Ear.Blk.new'); (simp only [World.size_alloc, World.size_setCell, World.size_drew, setRow_size]; done)) | (with_reducible apply Ear.Blk.alloc) | (with_reducible apply Ear.Blk.drew) | (with_reducible apply Ear.Blk.set') | (with_reducible apply Ear.Blk.setRow') | (with_reducible apply Ear.Blk.otherRow) | (with_reducible apply Ear.Blk.other) | (with_reducible apply Ear.Blk.below (hb := hb2)) | (show List.set _ _ _ = _; first | exact HSET.out | exact Ear.set_xor _ _ (by omega) | exact Ear.set_or _ _ (by omega) | rfl) | (show _ ≠ _; (try simp only [World.size_alloc, World.size_setCell, World.size_drew, setRow_size]); omega) | (show _ < _; (try simp only [World.size_alloc, World.size_setCell, World.size_drew, setRow_size]); omega)))); clear hb2; have hx_2_l := hx_2.lt; have hx_2_c0 := hx_2.cell 0; have hx_2_f0 := hx_2.frozen 0; have hx_2_c1 := hx_2.cell 1; have hx_2_f1 := hx_2.frozen 1; have hx_2_c2 := hx_2.cell 2; have hx_2_f2 := hx_2.frozen 2; have hx_2_c3 := hx_2.cell 3; have hx_2_f3 := hx_2.frozen 3; have hy_2_l := hy_2.lt; have hy_2_c0 := hy_2.cell 0; have hy_2_f0 := hy_2.frozen 0; have hy_2_c1 := hy_2.cell 1; have hy_2_f1 := hy_2.frozen 1; have hy_2_c2 := hy_2.cell 2; have hy_2_f2 := hy_2.frozen 2; have hy_2_c3 := hy_2.cell 3; have hy_2_f3 := hy_2.frozen 3)
        refine bp_world (fun W => Below w.heap.size w W ∧ Ear.Blk W (w.heap.size) 24 ([.int .u32 0, .int .u32 0, .int .u32 0, .int .u32 0])) ⟨by go_grown, by (repeat' (first | (show Ear.Blk _ _ _ _; with_reducible assumption) | ((with_reducible apply Ear.Blk.new'); (simp only [World.size_alloc, World.size_setCell, World.size_drew, setRow_size]; done)) | (with_reducible apply Ear.Blk.alloc) | (with_reducible apply Ear.Blk.drew) | (with_reducible apply Ear.Blk.set') | (with_reducible apply Ear.Blk.setRow') | (with_reducible apply Ear.Blk.otherRow) | (with_reducible apply Ear.Blk.other) | (show List.set _ _ _ = _; first | exact HSET.out | exact Ear.set_xor _ _ (by omega) | exact Ear.set_or _ _ (by omega) | rfl) | (show _ ≠ _; (try simp only [World.size_alloc, World.size_setCell, World.size_drew, setRow_size]); omega) | (show _ < _; (try simp only [World.size_alloc, World.size_setCell, World.size_drew, setRow_size]); omega)))⟩ ?_; rintro w3 ⟨hB3, hx_3⟩; have hs3 := hB3.size; have hx_3_l := hx_3.lt; have hx_3_c0 := hx_3.cell 0; have hx_3_f0 := hx_3.frozen 0; have hx_3_c1 := hx_3.cell 1; have hx_3_f1 := hx_3.frozen 1; have hx_3_c2 := hx_3.cell 2; have hx_3_f2 := hx_3.frozen 2; have hx_3_c3 := hx_3.cell 3; have hx_3_f3 := hx_3.frozen 3
        refine bodyPost_ret (v := .tuple #[.agg #[.int .u32 (Ear.wd (0#128) 0), .int .u32 (Ear.wd (0#128) 1), .int .u32 (Ear.wd (0#128) 2), .int .u32 (Ear.wd (0#128) 3)], .int .i64 30]) (by simp [results, Try.results25, go_sem, Ear.wd_zero, hx_3_c0, hx_3_c1, hx_3_c2, hx_3_c3]) rfl ⟨.inr ⟨?_, rfl⟩, ?_⟩
        · intro hall
          have := hall l[k] (List.getElem_mem hlt)
          rw [HX.out] at this
          exact hin this
        · go_grown
    · go_wp2
      have hkl : k = l.length := by omega
      subst hkl
      have ht : List.take l.length l = l := List.take_length
      have hok := HO.out
      rw [ht] at hok
      simp only [ht] at *
      refine bp_world (fun W => Below w.heap.size w W ∧ Ear.Blk W (w.heap.size) 24 ([.int .u32 (Ear.wd (ofL l) 0), .int .u32 (Ear.wd (ofL l) 1), .int .u32 (Ear.wd (ofL l) 2), .int .u32 (Ear.wd (ofL l) 3)])) ⟨by go_grown, by (repeat' (first | (show Ear.Blk _ _ _ _; with_reducible assumption) | ((with_reducible apply Ear.Blk.new'); (simp only [World.size_alloc, World.size_setCell, World.size_drew, setRow_size]; done)) | (with_reducible apply Ear.Blk.alloc) | (with_reducible apply Ear.Blk.drew) | (with_reducible apply Ear.Blk.set') | (with_reducible apply Ear.Blk.setRow') | (with_reducible apply Ear.Blk.otherRow) | (with_reducible apply Ear.Blk.other) | (show List.set _ _ _ = _; first | exact HSET.out | exact Ear.set_xor _ _ (by omega) | exact Ear.set_or _ _ (by omega) | rfl) | (show _ ≠ _; (try simp only [World.size_alloc, World.size_setCell, World.size_drew, setRow_size]); omega) | (show _ < _; (try simp only [World.size_alloc, World.size_setCell, World.size_drew, setRow_size]); omega)))⟩ ?_; rintro w3 ⟨hB3, hx_3⟩; have hs3 := hB3.size; have hx_3_l := hx_3.lt; have hx_3_c0 := hx_3.cell 0; have hx_3_f0 := hx_3.frozen 0; have hx_3_c1 := hx_3.cell 1; have hx_3_f1 := hx_3.frozen 1; have hx_3_c2 := hx_3.cell 2; have hx_3_f2 := hx_3.frozen 2; have hx_3_c3 := hx_3.cell 3; have hx_3_f3 := hx_3.frozen 3
      refine bodyPost_ret (v := .tuple #[.agg #[.int .u32 (Ear.wd (ofL l) 0), .int .u32 (Ear.wd (ofL l) 1), .int .u32 (Ear.wd (ofL l) 2), .int .u32 (Ear.wd (ofL l) 3)], .int .i64 0]) (by simp [results, Try.results25, go_sem, hx_3_c0, hx_3_c1, hx_3_c2, hx_3_c3]) rfl ⟨.inl ⟨hok, rfl⟩, ?_⟩
      go_grown

theorem Of_alive (B cap : Nat) (w : World) (hB : B < w.heap.size) (h0 : w.cell? ⟨B, 0, none⟩ = some (.int .i64 0)) (h1 : w.cell? ⟨B, 1, none⟩ = some (.int .i64 33)) :
    Calls Try.prog 25 #[.slice (some ⟨B, 0, none⟩) 2 cap] w fun e w' => e = .returned (.tuple #[.agg #[.int .u32 1, .int .u32 2, .int .u32 0, .int .u32 0], .int .i64 0]) ∧ Below w.heap.size w w' := by
  refine (Of_calls [0, 33] (some ⟨B, 0, none⟩) cap w (by decide) ?_).mono ?_
  · intro i hi
    have hi' : i < 2 := hi
    have : i = 0 ∨ i = 1 := by omega
    rcases this with rfl | rfl
    · exact ⟨B, 0, rfl, hB, h0⟩
    · exact ⟨B, 0, rfl, hB, h1⟩
  · rintro e w' ⟨⟨_, h⟩ | ⟨h, _⟩, hb⟩
    · refine ⟨?_, hb⟩
      rw [h]
      have e0 : Ear.wd (ofL [0, 33]) 0 = 1 := by decide
      have e1 : Ear.wd (ofL [0, 33]) 1 = 2 := by decide
      have e2 : Ear.wd (ofL [0, 33]) 2 = 0 := by decide
      have e3 : Ear.wd (ofL [0, 33]) 3 = 0 := by decide
      rw [e0, e1, e2, e3]
    · exact absurd (by intro x hx; simp at hx; omega) h

end Go.Proofs.Ytjopmnfmifbmbaa
