/-
  What is known of a world at a cut: a list of blocks and their cells, and that whatever lay ahead of the call lies as it lay.
  What Union, Meet, Less of the document's answer come to.
  Slices of ints that lie in memory: how they are read, held against each other, grown.
-/
import Derived.Test.YtfnolmlmmimehaaRef
import Derived.WalkKit
import Derived.Handy
import Derived.LoopTactic
import Derived.WalkSpells
import Derived.WalkLawsBesides
import Derived.Lib.Hide
import Derived.Deep.Cut
import Derived.Laws.AppendOwn
section
namespace Go.Proofs.Ytfnolmlmmimehaa
set_option linter.unusedSimpArgs false
set_option linter.unusedVariables false
open Go.RowKit
namespace Ear

/-- Each block of the list has its cells; below n all is as in w0. -/
def Sh (n : Nat) (w0 : World) : List (Nat × TypeId × List Value) → World → Prop
  | [], W => Below n w0 W
  | (B, T, cs) :: L, W => Blk W B T cs ∧ Sh n w0 L W
theorem Sh.nil {n : Nat} {w0 W : World} (h : Below n w0 W) : Sh n w0 [] W := h
theorem Sh.cons {n : Nat} {w0 W : World} {B : Nat} {T : TypeId} {cs : List Value} {L : List (Nat × TypeId × List Value)} (h : Blk W B T cs) (k : Sh n w0 L W) : Sh n w0 ((B, T, cs) :: L) W := ⟨h, k⟩
/-- Both are known. -/
def AndW (A B : World → Prop) (W : World) : Prop := A W ∧ B W
theorem bp_world {P : Program} {f : Func} {Q : Ending → World → Prop} {x : Exit} {a : Act} {w : World} (Φ : World → Prop) (h : Φ w) (k : ∀ w', Φ w' → bodyPost P f Q x a w') : bodyPost P f Q x a w := k w h
theorem Blk.setC {W : World} {B : Nat} {T : TypeId} {cs : List Value} {i : Nat} {v : Value} (h : Blk W B T cs) : Blk (W.setCell ⟨B, i, none⟩ v) B T (cs.set i v) := h.set i v
theorem Blk.setC' {W : World} {B B' : Nat} {T : TypeId} {cs : List Value} {i : Nat} {v : Value} (h : Blk W B T cs) (e : B' = B) : Blk (W.setCell ⟨B', i, none⟩ v) B T (cs.set i v) := by subst e; exact h.set i v
theorem Blk.rowC {W : World} {B g T : Nat} {cs cs' : List Value} (h : Blk W B T cs) (e : g = B) : Blk (W.setRow g cs'.toArray) B T cs' := Blk.setRow' h e
theorem Blk.renew {W : World} {B T : Nat} {cs cs' : List Value} (h : Blk W B T cs) (e : cs = cs') : Blk W B T cs' := e ▸ h
end Ear
end Go.Proofs.Ytfnolmlmmimehaa
end
section
namespace Go.Proofs.Ytfnolmlmmimehaa
set_option linter.unusedSimpArgs false
set_option linter.unusedVariables false
open Go.RowKit
attribute [local go_sem] rowL_len
attribute [local irreducible] Ear.wd Ear.one Ear.clean
theorem mix_get {f g : Nat → Bool} {k : Nat} (h : k < 100) : (rowL fun j => if j < k then g j else f j)[k]? = some (.bool (f k)) := by
  rw [rowL_get _ _ h]; simp
theorem mix_set {f g : Nat → Bool} {k : Nat} {b : Bool} (h : g k = b) : (rowL fun j => if j < k then g j else f j).set k (.bool b) = rowL fun j => if j < k + 1 then g j else f j := by
  apply rowL_set
  intro i _
  by_cases hi : i = k
  · subst hi; simp [h]
  · by_cases hl : i < k
    · have : i < k + 1 := by omega
      simp [hi, hl, this]
    · have : ¬ i < k + 1 := by omega
      simp [hi, hl, this]
theorem mix_zero (f g : Nat → Bool) : (rowL fun j => if j < 0 then g j else f j) = rowL f := rowL_congr (fun i _ => by simp)
theorem mix_all (f g : Nat → Bool) : (rowL fun j => if j < 100 then g j else f j) = rowL g := rowL_congr (fun i h => by simp [h])

set_option maxRecDepth 100000 in
set_option maxHeartbeats 4000000 in
theorem RUnion_calls (a b : BitVec 128) (w : World) : Calls Try.prog 38 #[.agg #[.int .u32 (Ear.wd (a) 0), .int .u32 (Ear.wd (a) 1), .int .u32 (Ear.wd (a) 2), .int .u32 (Ear.wd (a) 3)], .agg #[.int .u32 (Ear.wd (b) 0), .int .u32 (Ear.wd (b) 1), .int .u32 (Ear.wd (b) 2), .int .u32 (Ear.wd (b) 3)]] w fun e w' => e = .returned (.agg #[.int .u32 (Ear.wd (Ear.clean (a ||| b)) 0), .int .u32 (Ear.wd (Ear.clean (a ||| b)) 1), .int .u32 (Ear.wd (Ear.clean (a ||| b)) 2), .int .u32 (Ear.wd (Ear.clean (a ||| b)) 3)]) ∧ Below w.heap.size w w' := by
  go_enter Try.func38, Try.ntmps38
  go_wp2
  refine Ear.Pa.wp_region_qa 6 [(4, 5, 106, rowL fun _ => false), (5, 6, 106, rowL fun _ => false)] (by (simp only [List.map_cons, List.map_nil, Ear.repl]; rfl)) (by kernel_rfl) (by kernel_rfl) (by kernel_rfl) (by (intro p hp o ho; simp only [List.mem_cons, List.not_mem_nil, or_false] at hp; (rcases hp with rfl | rfl); all_goals (cases ho; intro a' w' K' Q' hK'; go_wp2; (first | exact hK' | (rw [zero73]; exact hK'))))) (fun C hC1 hC2 => ?_); simp only [List.take_succ_cons, List.take_zero, List.drop_succ_cons, List.drop_zero]
  (iterate 1 (refine Ear.Pa.wpQ_run (by rfl) ?_; apply Exists.intro; refine ⟨fun K Q w' hw' hK => ?_, ?_⟩; (focus (obtain ⟨hc', hf'⟩ := Ear.bcell (hC1.out w' hw'); simp only [Act.put, List.setIfInBounds_toArray, List.set_cons_succ, List.set_cons_zero] at hK; go_wp2; exact hC2.out _ _ hw' (Below.refl _ _))); simp only [Act.put, List.setIfInBounds_toArray, List.set_cons_succ, List.set_cons_zero]))
  refine Ear.Pa.wpQ_run (by rfl) ?_; apply Exists.intro; refine ⟨fun K Q w' hw' hK => ?_, ?_⟩; (focus (simp only [Act.put, List.setIfInBounds_toArray, List.set_cons_succ, List.set_cons_zero] at hK; go_wp2_with (refine (Row_calls a _).mono ?_; rintro e w'' ⟨rfl, hb''⟩); exact hC2.out _ _ hw' hb'')); simp only [Act.put, List.setIfInBounds_toArray, List.set_cons_succ, List.set_cons_zero]
  (iterate 1 (refine Ear.Pa.wpQ_run (by rfl) ?_; apply Exists.intro; refine ⟨fun K Q w' hw' hK => ?_, ?_⟩; (focus (obtain ⟨hc', hf'⟩ := Ear.bcell (hC1.out w' hw'); simp only [Act.put, List.setIfInBounds_toArray, List.set_cons_succ, List.set_cons_zero] at hK; go_wp2; exact hC2.out _ _ hw' (Below.refl _ _))); simp only [Act.put, List.setIfInBounds_toArray, List.set_cons_succ, List.set_cons_zero]))
  refine Ear.Pa.wpQ_run (by rfl) ?_; apply Exists.intro; refine ⟨fun K Q w' hw' hK => ?_, ?_⟩; (focus (simp only [Act.put, List.setIfInBounds_toArray, List.set_cons_succ, List.set_cons_zero] at hK; go_wp2_with (refine (Row_calls b _).mono ?_; rintro e w'' ⟨rfl, hb''⟩); exact hC2.out _ _ hw' hb'')); simp only [Act.put, List.setIfInBounds_toArray, List.set_cons_succ, List.set_cons_zero]
  (iterate 2 (refine Ear.Pa.wpQ_run (by rfl) ?_; refine ⟨undef, fun K Q w' hw' hK => ?_, ?_⟩; (focus (simp only [Act.put, List.setIfInBounds_toArray, List.set_cons_succ, List.set_cons_zero] at hK; go_wp2; exact hC2.out _ _ hw' (Below.refl _ _))); simp only [Act.put, List.setIfInBounds_toArray, List.set_cons_succ, List.set_cons_zero]))
  refine Ear.Pa.wpQ_nil ?_
  intro w1 o hb1 ho
  simp only [Ear.ov, Ear.ovo, Act.put, List.setIfInBounds_toArray, List.set_cons_succ, List.set_cons_zero]; obtain ⟨hp_B, hq_B, hp_e, hq_e, hp_n, hq_n, hne_1, hp_1, hq_1⟩ := ho.two (by decide); rw [hp_e, hq_e]; clear hp_e hq_e ho; (try simp only [World.size_alloc, World.size_setCell, World.size_drew] at hp_n hq_n)
  clear hC1 hC2
  have hp := hp_1
  have hq := hq_1
  clear hp_1 hq_1
  have hB' : Below w.heap.size w w1 := Below.trans (by (repeat' (first | (with_reducible exact Below.refl _ _) | (with_reducible assumption) | (show Below 0 _ _; with_reducible refine Below.mono (by assumption) (Nat.zero_le _)) | (with_reducible refine below_setRow ?_ ?_ _) | (with_reducible refine Below.alloc ?_ ?_ _) | (with_reducible refine Below.drew ?_) | (with_reducible refine Below.setCell ?_ ?_ _) | (with_reducible refine Below.frame ?_ _) | (with_reducible exact Nat.le_refl _) | omega | (simp only [World.size_alloc, World.size_setCell, World.size_drew, setRow_size]; omega) | (simp; omega) | (simp; done)))) (hb1.mono (by (try simp only [World.size_alloc, World.size_setCell, World.size_drew, setRow_size]); omega)); have hr' := (show Ear.Blk w1 (w.heap.size + 2) _ _ from by (repeat' (first | (show Ear.Blk _ _ _ _; with_reducible assumption) | (with_reducible exact Ear.Blk.new _ _ _) | (with_reducible refine Ear.Blk.new' ?_; (simp only [World.size_alloc, World.size_setCell, World.size_drew, setRow_size]; done)) | (with_reducible apply Ear.Blk.alloc) | (with_reducible apply Ear.Blk.drew) | (with_reducible apply Ear.Blk.setC) | (with_reducible apply Ear.Blk.setC' (e := by omega)) | (with_reducible apply Ear.Blk.rowC (e := by first | rfl | omega)) | (with_reducible apply Ear.Blk.otherRow) | (with_reducible apply Ear.Blk.other) | (with_reducible apply Ear.Blk.below (hb := hb1)) | (show _ ≠ _; (try simp only [World.size_alloc, World.size_setCell, World.size_drew, setRow_size]); omega) | (show _ < _; (try simp only [World.size_alloc, World.size_setCell, World.size_drew, setRow_size]); omega)))); have hp' := (show Ear.Blk w1 (hp_B) _ _ from by (repeat' (first | (show Ear.Blk _ _ _ _; with_reducible assumption) | (with_reducible exact Ear.Blk.new _ _ _) | (with_reducible refine Ear.Blk.new' ?_; (simp only [World.size_alloc, World.size_setCell, World.size_drew, setRow_size]; done)) | (with_reducible apply Ear.Blk.alloc) | (with_reducible apply Ear.Blk.drew) | (with_reducible apply Ear.Blk.setC) | (with_reducible apply Ear.Blk.setC' (e := by omega)) | (with_reducible apply Ear.Blk.rowC (e := by first | rfl | omega)) | (with_reducible apply Ear.Blk.otherRow) | (with_reducible apply Ear.Blk.other) | (with_reducible apply Ear.Blk.below (hb := hb1)) | (show _ ≠ _; (try simp only [World.size_alloc, World.size_setCell, World.size_drew, setRow_size]); omega) | (show _ < _; (try simp only [World.size_alloc, World.size_setCell, World.size_drew, setRow_size]); omega)))); have hq' := (show Ear.Blk w1 (hq_B) _ _ from by (repeat' (first | (show Ear.Blk _ _ _ _; with_reducible assumption) | (with_reducible exact Ear.Blk.new _ _ _) | (with_reducible refine Ear.Blk.new' ?_; (simp only [World.size_alloc, World.size_setCell, World.size_drew, setRow_size]; done)) | (with_reducible apply Ear.Blk.alloc) | (with_reducible apply Ear.Blk.drew) | (with_reducible apply Ear.Blk.setC) | (with_reducible apply Ear.Blk.setC' (e := by omega)) | (with_reducible apply Ear.Blk.rowC (e := by first | rfl | omega)) | (with_reducible apply Ear.Blk.otherRow) | (with_reducible apply Ear.Blk.other) | (with_reducible apply Ear.Blk.below (hb := hb1)) | (show _ ≠ _; (try simp only [World.size_alloc, World.size_setCell, World.size_drew, setRow_size]); omega) | (show _ < _; (try simp only [World.size_alloc, World.size_setCell, World.size_drew, setRow_size]); omega)))); clear hb1; (try clear hr_l); (try clear hr_c); (try clear hr_f); (try clear hr); have hr := hr'; clear hr'; (try simp only [List.set_cons_zero, List.set_cons_succ] at hr); have hr_l := hr.lt; have hr_c := hr.cell; have hr_f := hr.frozen; (try clear hp_l); (try clear hp_c); (try clear hp_f); (try clear hp); have hp := hp'; clear hp'; (try simp only [List.set_cons_zero, List.set_cons_succ] at hp); have hp_l := hp.lt; have hp_c := hp.cell; have hp_f := hp.frozen; (try clear hq_l); (try clear hq_c); (try clear hq_f); (try clear hq); have hq := hq'; clear hq'; (try simp only [List.set_cons_zero, List.set_cons_succ] at hq); have hq_l := hq.lt; have hq_c := hq.cell; have hq_f := hq.frozen; (try clear hB hs); have hB := hB'; clear hB'; have hs := hB.size
  have hst1 := fun g => storeCells73 (g := g) hp
  have hst2 := fun cs g => storeCells73 (g := g) (hq.otherRow (c := cs) (Ne.symm hne_1))
  go_wp2
  clear hst1 hst2
  refine Ear.wp_world (Ear.Sh w.heap.size w [(w.heap.size + 2, _, _), (hp_B, _, _), (hq_B, _, _)]) (.cons (by (repeat' (first | (show Ear.Blk _ _ _ _; with_reducible assumption) | (with_reducible exact Ear.Blk.new _ _ _) | (with_reducible refine Ear.Blk.new' ?_; (simp only [World.size_alloc, World.size_setCell, World.size_drew, setRow_size]; done)) | (with_reducible apply Ear.Blk.alloc) | (with_reducible apply Ear.Blk.drew) | (with_reducible apply Ear.Blk.setC) | (with_reducible apply Ear.Blk.setC' (e := by omega)) | (with_reducible apply Ear.Blk.rowC (e := by first | rfl | omega)) | (with_reducible apply Ear.Blk.otherRow) | (with_reducible apply Ear.Blk.other) | (show _ ≠ _; (try simp only [World.size_alloc, World.size_setCell, World.size_drew, setRow_size]); omega) | (show _ < _; (try simp only [World.size_alloc, World.size_setCell, World.size_drew, setRow_size]); omega)))) (.cons (by (repeat' (first | (show Ear.Blk _ _ _ _; with_reducible assumption) | (with_reducible exact Ear.Blk.new _ _ _) | (with_reducible refine Ear.Blk.new' ?_; (simp only [World.size_alloc, World.size_setCell, World.size_drew, setRow_size]; done)) | (with_reducible apply Ear.Blk.alloc) | (with_reducible apply Ear.Blk.drew) | (with_reducible apply Ear.Blk.setC) | (with_reducible apply Ear.Blk.setC' (e := by omega)) | (with_reducible apply Ear.Blk.rowC (e := by first | rfl | omega)) | (with_reducible apply Ear.Blk.otherRow) | (with_reducible apply Ear.Blk.other) | (show _ ≠ _; (try simp only [World.size_alloc, World.size_setCell, World.size_drew, setRow_size]); omega) | (show _ < _; (try simp only [World.size_alloc, World.size_setCell, World.size_drew, setRow_size]); omega)))) (.cons (by (repeat' (first | (show Ear.Blk _ _ _ _; with_reducible assumption) | (with_reducible exact Ear.Blk.new _ _ _) | (with_reducible refine Ear.Blk.new' ?_; (simp only [World.size_alloc, World.size_setCell, World.size_drew, setRow_size]; done)) | (with_reducible apply Ear.Blk.alloc) | (with_reducible apply Ear.Blk.drew) | (with_reducible apply Ear.Blk.setC) | (with_reducible apply Ear.Blk.setC' (e := by omega)) | (with_reducible apply Ear.Blk.rowC (e := by first | rfl | omega)) | (with_reducible apply Ear.Blk.otherRow) | (with_reducible apply Ear.Blk.other) | (show _ ≠ _; (try simp only [World.size_alloc, World.size_setCell, World.size_drew, setRow_size]); omega) | (show _ < _; (try simp only [World.size_alloc, World.size_setCell, World.size_drew, setRow_size]); omega)))) (.nil (by (repeat' (first | (with_reducible exact Below.refl _ _) | (with_reducible assumption) | (show Below 0 _ _; with_reducible refine Below.mono (by assumption) (Nat.zero_le _)) | (with_reducible refine below_setRow ?_ ?_ _) | (with_reducible refine Below.alloc ?_ ?_ _) | (with_reducible refine Below.drew ?_) | (with_reducible refine Below.setCell ?_ ?_ _) | (with_reducible refine Below.frame ?_ _) | (with_reducible exact Nat.le_refl _) | omega | (simp only [World.size_alloc, World.size_setCell, World.size_drew, setRow_size]; omega) | (simp; omega) | (simp; done)))))))) ?_; (try clear hr_l); (try clear hr_c); (try clear hr_f); (try clear hr); (try clear hp_l); (try clear hp_c); (try clear hp_f); (try clear hp); (try clear hq_l); (try clear hq_c); (try clear hq_f); (try clear hq); (try clear hB hs); rintro w2 ⟨hr, hp, hq, hB⟩; replace hB : Below w.heap.size w w2 := hB; have hs := hB.size; (try simp only [List.set_cons_zero, List.set_cons_succ] at hr); (try simp only [List.set_cons_zero, List.set_cons_succ] at hp); (try simp only [List.set_cons_zero, List.set_cons_succ] at hq); have hr_l := hr.lt; have hr_c := hr.cell; have hr_f := hr.frozen; have hp_l := hp.lt; have hp_c := hp.cell; have hp_f := hp.frozen; have hq_l := hq.lt; have hq_c := hq.cell; have hq_f := hq.frozen
  clear hp_c hq_c
  go_loopw [7] (fun i wr => ∃ k : Nat, k ≤ 100 ∧ i = .int .i64 k ∧ Ear.Sh w.heap.size w [(w.heap.size + 2, 26, [.int .u32 0, .int .u32 0, .int .u32 0, .int .u32 0]), (hp_B, 106, rowL fun j => if j < k then a.getLsbD j || b.getLsbD j else a.getLsbD j), (hq_B, 106, rowL b.getLsbD)] wr) (fun i _ => 100 - (intOf i).toNat)
  case atStart =>
    refine ⟨0, by omega, rfl, .cons hr (.cons (hp.renew (mix_zero _ _).symm) (.cons hq (.nil hB)))⟩
  case round =>
    clear hr hr_l hr_c hr_f hp hp_l hp_f hq hq_l hq_f hB hs
    obtain ⟨k, hk, rfl, hr, hp, hq, hB⟩ := hrel
    replace hB : Below w.heap.size w _ := hB
    have hs := hB.size
    have hr_l := hr.lt
    have hp_l := hp.lt
    have hq_l := hq.lt
    by_cases hlt : k < 100
    · have hpc := hp.cell k
      rw [mix_get hlt] at hpc
      have hpf := hp.frozen k
      have hqc := hq.cell k
      rw [rowL_get _ _ hlt] at hqc
      obtain ⟨x, hx⟩ : ∃ x, a.getLsbD k = x := ⟨_, rfl⟩
      obtain ⟨y, hy⟩ : ∃ y, b.getLsbD k = y := ⟨_, rfl⟩
      have HG : (fun j => a.getLsbD j || b.getLsbD j) k = (x || y) := by simp only [hx, hy]
      rw [hx] at hpc
      rw [hy] at hqc
      have HS := Lib.hid (mix_set (f := a.getLsbD) (g := fun j => a.getLsbD j || b.getLsbD j) HG)
      clear hx hy HG
      cases x
      all_goals
        have hp' := Lib.hid hp
        clear hp
        go_wp2
        go_roundw
        case rel =>
          refine ⟨k + 1, hlt, by go_num, .cons (by (repeat' (first | (show Ear.Blk _ _ _ _; with_reducible assumption) | (with_reducible exact Ear.Blk.new _ _ _) | (with_reducible refine Ear.Blk.new' ?_; (simp only [World.size_alloc, World.size_setCell, World.size_drew, setRow_size]; done)) | (with_reducible apply Ear.Blk.alloc) | (with_reducible apply Ear.Blk.drew) | (with_reducible apply Ear.Blk.setC) | (with_reducible apply Ear.Blk.setC' (e := by omega)) | (with_reducible apply Ear.Blk.rowC (e := by first | rfl | omega)) | (with_reducible apply Ear.Blk.otherRow) | (with_reducible apply Ear.Blk.other) | (show _ ≠ _; (try simp only [World.size_alloc, World.size_setCell, World.size_drew, setRow_size]); omega) | (show _ < _; (try simp only [World.size_alloc, World.size_setCell, World.size_drew, setRow_size]); omega)))) (.cons (Ear.Blk.set' hp'.out ?_) (.cons (by (repeat' (first | (show Ear.Blk _ _ _ _; with_reducible assumption) | (with_reducible exact Ear.Blk.new _ _ _) | (with_reducible refine Ear.Blk.new' ?_; (simp only [World.size_alloc, World.size_setCell, World.size_drew, setRow_size]; done)) | (with_reducible apply Ear.Blk.alloc) | (with_reducible apply Ear.Blk.drew) | (with_reducible apply Ear.Blk.setC) | (with_reducible apply Ear.Blk.setC' (e := by omega)) | (with_reducible apply Ear.Blk.rowC (e := by first | rfl | omega)) | (with_reducible apply Ear.Blk.otherRow) | (with_reducible apply Ear.Blk.other) | (show _ ≠ _; (try simp only [World.size_alloc, World.size_setCell, World.size_drew, setRow_size]); omega) | (show _ < _; (try simp only [World.size_alloc, World.size_setCell, World.size_drew, setRow_size]); omega)))) (.nil (by (repeat' (first | (with_reducible exact Below.refl _ _) | (with_reducible assumption) | (show Below 0 _ _; with_reducible refine Below.mono (by assumption) (Nat.zero_le _)) | (with_reducible refine below_setRow ?_ ?_ _) | (with_reducible refine Below.alloc ?_ ?_ _) | (with_reducible refine Below.drew ?_) | (with_reducible refine Below.setCell ?_ ?_ _) | (with_reducible refine Below.frame ?_ _) | (with_reducible exact Nat.le_refl _) | omega | (simp only [World.size_alloc, World.size_setCell, World.size_drew, setRow_size]; omega) | (simp; omega) | (simp; done)))))))⟩
          first | exact HS.out | (have := HS.out; simpa using this)
        case measure => simp [intOf]; omega
    · have hk' : k = 100 := by omega
      subst hk'
      rw [mix_all] at hp
      have hr_c := hr.cell
      have hr_f := hr.frozen
      have hp_f := hp.frozen
      go_wp2_with (first | (refine wpList_load_row rfl 106 _ rfl _ rfl _ _ (0, 0) _ (hp) Try.underlying106 rfl (size73 _) ?_) | (go_at_call 77; (with_reducible refine Calls.mono (Make_eq (v := a ||| b) (fun i hi => by simp only [BitVec.getLsbD_or, BitVec.getLsbD_and, BitVec.getLsbD_not, Bool.and_assoc, show decide (i < 128) = true from by simp; omega, Bool.true_and]) _) ?_); rintro e w3 ⟨rfl, hb3⟩; have hB' : Below w.heap.size w w3 := Below.trans (by (repeat' (first | (with_reducible exact Below.refl _ _) | (with_reducible assumption) | (show Below 0 _ _; with_reducible refine Below.mono (by assumption) (Nat.zero_le _)) | (with_reducible refine below_setRow ?_ ?_ _) | (with_reducible refine Below.alloc ?_ ?_ _) | (with_reducible refine Below.drew ?_) | (with_reducible refine Below.setCell ?_ ?_ _) | (with_reducible refine Below.frame ?_ _) | (with_reducible exact Nat.le_refl _) | omega | (simp only [World.size_alloc, World.size_setCell, World.size_drew, setRow_size]; omega) | (simp; omega) | (simp; done)))) (hb3.mono (by (try simp only [World.size_alloc, World.size_setCell, World.size_drew, setRow_size]); omega)); have hr' := (show Ear.Blk w3 (w.heap.size + 2) _ _ from by (repeat' (first | (show Ear.Blk _ _ _ _; with_reducible assumption) | (with_reducible exact Ear.Blk.new _ _ _) | (with_reducible refine Ear.Blk.new' ?_; (simp only [World.size_alloc, World.size_setCell, World.size_drew, setRow_size]; done)) | (with_reducible apply Ear.Blk.alloc) | (with_reducible apply Ear.Blk.drew) | (with_reducible apply Ear.Blk.setC) | (with_reducible apply Ear.Blk.setC' (e := by omega)) | (with_reducible apply Ear.Blk.rowC (e := by first | rfl | omega)) | (with_reducible apply Ear.Blk.otherRow) | (with_reducible apply Ear.Blk.other) | (with_reducible apply Ear.Blk.below (hb := hb3)) | (show _ ≠ _; (try simp only [World.size_alloc, World.size_setCell, World.size_drew, setRow_size]); omega) | (show _ < _; (try simp only [World.size_alloc, World.size_setCell, World.size_drew, setRow_size]); omega)))); clear hb3; (try clear hr_l); (try clear hr_c); (try clear hr_f); (try clear hr); have hr := hr'; clear hr'; (try simp only [List.set_cons_zero, List.set_cons_succ] at hr); have hr_l := hr.lt; have hr_c := hr.cell; have hr_f := hr.frozen; (try clear hB hs); have hB := hB'; clear hB'; have hs := hB.size))
      refine Ear.bp_world (Ear.Sh w.heap.size w [(w.heap.size + 2, _, _)]) (.cons (by (repeat' (first | (show Ear.Blk _ _ _ _; with_reducible assumption) | (with_reducible exact Ear.Blk.new _ _ _) | (with_reducible refine Ear.Blk.new' ?_; (simp only [World.size_alloc, World.size_setCell, World.size_drew, setRow_size]; done)) | (with_reducible apply Ear.Blk.alloc) | (with_reducible apply Ear.Blk.drew) | (with_reducible apply Ear.Blk.setC) | (with_reducible apply Ear.Blk.setC' (e := by omega)) | (with_reducible apply Ear.Blk.rowC (e := by first | rfl | omega)) | (with_reducible apply Ear.Blk.otherRow) | (with_reducible apply Ear.Blk.other) | (show _ ≠ _; (try simp only [World.size_alloc, World.size_setCell, World.size_drew, setRow_size]); omega) | (show _ < _; (try simp only [World.size_alloc, World.size_setCell, World.size_drew, setRow_size]); omega)))) (.nil (by (repeat' (first | (with_reducible exact Below.refl _ _) | (with_reducible assumption) | (show Below 0 _ _; with_reducible refine Below.mono (by assumption) (Nat.zero_le _)) | (with_reducible refine below_setRow ?_ ?_ _) | (with_reducible refine Below.alloc ?_ ?_ _) | (with_reducible refine Below.drew ?_) | (with_reducible refine Below.setCell ?_ ?_ _) | (with_reducible refine Below.frame ?_ _) | (with_reducible exact Nat.le_refl _) | omega | (simp only [World.size_alloc, World.size_setCell, World.size_drew, setRow_size]; omega) | (simp; omega) | (simp; done)))))) ?_; (try clear hr_l); (try clear hr_c); (try clear hr_f); (try clear hr); (try clear hB hs); rintro w4 ⟨hr, hB⟩; replace hB : Below w.heap.size w w4 := hB; have hs := hB.size; (try simp only [List.set_cons_zero, List.set_cons_succ] at hr); have hr_l := hr.lt; have hr_c := hr.cell; have hr_f := hr.frozen
      refine bodyPost_ret (v := .agg #[.int .u32 (Ear.wd (Ear.clean (a ||| b)) 0), .int .u32 (Ear.wd (Ear.clean (a ||| b)) 1), .int .u32 (Ear.wd (Ear.clean (a ||| b)) 2), .int .u32 (Ear.wd (Ear.clean (a ||| b)) 3)]) (by simp [results, Try.results38, go_sem, *]) rfl ⟨rfl, hB⟩

set_option maxRecDepth 100000 in
set_option maxHeartbeats 4000000 in
theorem RLess_calls (a b : BitVec 128) (w : World) : Calls Try.prog 51 #[.agg #[.int .u32 (Ear.wd (a) 0), .int .u32 (Ear.wd (a) 1), .int .u32 (Ear.wd (a) 2), .int .u32 (Ear.wd (a) 3)], .agg #[.int .u32 (Ear.wd (b) 0), .int .u32 (Ear.wd (b) 1), .int .u32 (Ear.wd (b) 2), .int .u32 (Ear.wd (b) 3)]] w fun e w' => e = .returned (.agg #[.int .u32 (Ear.wd (Ear.clean (a &&& ~~~b)) 0), .int .u32 (Ear.wd (Ear.clean (a &&& ~~~b)) 1), .int .u32 (Ear.wd (Ear.clean (a &&& ~~~b)) 2), .int .u32 (Ear.wd (Ear.clean (a &&& ~~~b)) 3)]) ∧ Below w.heap.size w w' := by
  go_enter Try.func51, Try.ntmps51
  go_wp2
  refine Ear.Pa.wp_region_qa 6 [(4, 5, 106, rowL fun _ => false), (5, 6, 106, rowL fun _ => false)] (by (simp only [List.map_cons, List.map_nil, Ear.repl]; rfl)) (by kernel_rfl) (by kernel_rfl) (by kernel_rfl) (by (intro p hp o ho; simp only [List.mem_cons, List.not_mem_nil, or_false] at hp; (rcases hp with rfl | rfl); all_goals (cases ho; intro a' w' K' Q' hK'; go_wp2; (first | exact hK' | (rw [zero73]; exact hK'))))) (fun C hC1 hC2 => ?_); simp only [List.take_succ_cons, List.take_zero, List.drop_succ_cons, List.drop_zero]
  (iterate 1 (refine Ear.Pa.wpQ_run (by rfl) ?_; apply Exists.intro; refine ⟨fun K Q w' hw' hK => ?_, ?_⟩; (focus (obtain ⟨hc', hf'⟩ := Ear.bcell (hC1.out w' hw'); simp only [Act.put, List.setIfInBounds_toArray, List.set_cons_succ, List.set_cons_zero] at hK; go_wp2; exact hC2.out _ _ hw' (Below.refl _ _))); simp only [Act.put, List.setIfInBounds_toArray, List.set_cons_succ, List.set_cons_zero]))
  refine Ear.Pa.wpQ_run (by rfl) ?_; apply Exists.intro; refine ⟨fun K Q w' hw' hK => ?_, ?_⟩; (focus (simp only [Act.put, List.setIfInBounds_toArray, List.set_cons_succ, List.set_cons_zero] at hK; go_wp2_with (refine (Row_calls a _).mono ?_; rintro e w'' ⟨rfl, hb''⟩); exact hC2.out _ _ hw' hb'')); simp only [Act.put, List.setIfInBounds_toArray, List.set_cons_succ, List.set_cons_zero]
  (iterate 1 (refine Ear.Pa.wpQ_run (by rfl) ?_; apply Exists.intro; refine ⟨fun K Q w' hw' hK => ?_, ?_⟩; (focus (obtain ⟨hc', hf'⟩ := Ear.bcell (hC1.out w' hw'); simp only [Act.put, List.setIfInBounds_toArray, List.set_cons_succ, List.set_cons_zero] at hK; go_wp2; exact hC2.out _ _ hw' (Below.refl _ _))); simp only [Act.put, List.setIfInBounds_toArray, List.set_cons_succ, List.set_cons_zero]))
  refine Ear.Pa.wpQ_run (by rfl) ?_; apply Exists.intro; refine ⟨fun K Q w' hw' hK => ?_, ?_⟩; (focus (simp only [Act.put, List.setIfInBounds_toArray, List.set_cons_succ, List.set_cons_zero] at hK; go_wp2_with (refine (Row_calls b _).mono ?_; rintro e w'' ⟨rfl, hb''⟩); exact hC2.out _ _ hw' hb'')); simp only [Act.put, List.setIfInBounds_toArray, List.set_cons_succ, List.set_cons_zero]
  (iterate 2 (refine Ear.Pa.wpQ_run (by rfl) ?_; refine ⟨undef, fun K Q w' hw' hK => ?_, ?_⟩; (focus (simp only [Act.put, List.setIfInBounds_toArray, List.set_cons_succ, List.set_cons_zero] at hK; go_wp2; exact hC2.out _ _ hw' (Below.refl _ _))); simp only [Act.put, List.setIfInBounds_toArray, List.set_cons_succ, List.set_cons_zero]))
  refine Ear.Pa.wpQ_nil ?_
  intro w1 o hb1 ho
  simp only [Ear.ov, Ear.ovo, Act.put, List.setIfInBounds_toArray, List.set_cons_succ, List.set_cons_zero]; obtain ⟨hp_B, hq_B, hp_e, hq_e, hp_n, hq_n, hne_1, hp_1, hq_1⟩ := ho.two (by decide); rw [hp_e, hq_e]; clear hp_e hq_e ho; (try simp only [World.size_alloc, World.size_setCell, World.size_drew] at hp_n hq_n)
  clear hC1 hC2
  have hp := hp_1
  have hq := hq_1
  clear hp_1 hq_1
  have hB' : Below w.heap.size w w1 := Below.trans (by (repeat' (first | (with_reducible exact Below.refl _ _) | (with_reducible assumption) | (show Below 0 _ _; with_reducible refine Below.mono (by assumption) (Nat.zero_le _)) | (with_reducible refine below_setRow ?_ ?_ _) | (with_reducible refine Below.alloc ?_ ?_ _) | (with_reducible refine Below.drew ?_) | (with_reducible refine Below.setCell ?_ ?_ _) | (with_reducible refine Below.frame ?_ _) | (with_reducible exact Nat.le_refl _) | omega | (simp only [World.size_alloc, World.size_setCell, World.size_drew, setRow_size]; omega) | (simp; omega) | (simp; done)))) (hb1.mono (by (try simp only [World.size_alloc, World.size_setCell, World.size_drew, setRow_size]); omega)); have hr' := (show Ear.Blk w1 (w.heap.size + 2) _ _ from by (repeat' (first | (show Ear.Blk _ _ _ _; with_reducible assumption) | (with_reducible exact Ear.Blk.new _ _ _) | (with_reducible refine Ear.Blk.new' ?_; (simp only [World.size_alloc, World.size_setCell, World.size_drew, setRow_size]; done)) | (with_reducible apply Ear.Blk.alloc) | (with_reducible apply Ear.Blk.drew) | (with_reducible apply Ear.Blk.setC) | (with_reducible apply Ear.Blk.setC' (e := by omega)) | (with_reducible apply Ear.Blk.rowC (e := by first | rfl | omega)) | (with_reducible apply Ear.Blk.otherRow) | (with_reducible apply Ear.Blk.other) | (with_reducible apply Ear.Blk.below (hb := hb1)) | (show _ ≠ _; (try simp only [World.size_alloc, World.size_setCell, World.size_drew, setRow_size]); omega) | (show _ < _; (try simp only [World.size_alloc, World.size_setCell, World.size_drew, setRow_size]); omega)))); have hp' := (show Ear.Blk w1 (hp_B) _ _ from by (repeat' (first | (show Ear.Blk _ _ _ _; with_reducible assumption) | (with_reducible exact Ear.Blk.new _ _ _) | (with_reducible refine Ear.Blk.new' ?_; (simp only [World.size_alloc, World.size_setCell, World.size_drew, setRow_size]; done)) | (with_reducible apply Ear.Blk.alloc) | (with_reducible apply Ear.Blk.drew) | (with_reducible apply Ear.Blk.setC) | (with_reducible apply Ear.Blk.setC' (e := by omega)) | (with_reducible apply Ear.Blk.rowC (e := by first | rfl | omega)) | (with_reducible apply Ear.Blk.otherRow) | (with_reducible apply Ear.Blk.other) | (with_reducible apply Ear.Blk.below (hb := hb1)) | (show _ ≠ _; (try simp only [World.size_alloc, World.size_setCell, World.size_drew, setRow_size]); omega) | (show _ < _; (try simp only [World.size_alloc, World.size_setCell, World.size_drew, setRow_size]); omega)))); have hq' := (show Ear.Blk w1 (hq_B) _ _ from by (repeat' (first | (show Ear.Blk _ _ _ _; with_reducible assumption) | (with_reducible exact Ear.Blk.new _ _ _) | (with_reducible refine Ear.Blk.new' ?_; (simp only [World.size_alloc, World.size_setCell, World.size_drew, setRow_size]; done)) | (with_reducible apply Ear.Blk.alloc) | (with_reducible apply Ear.Blk.drew) | (with_reducible apply Ear.Blk.setC) | (with_reducible apply Ear.Blk.setC' (e := by omega)) | (with_reducible apply Ear.Blk.rowC (e := by first | rfl | omega)) | (with_reducible apply Ear.Blk.otherRow) | (with_reducible apply Ear.Blk.other) | (with_reducible apply Ear.Blk.below (hb := hb1)) | (show _ ≠ _; (try simp only [World.size_alloc, World.size_setCell, World.size_drew, setRow_size]); omega) | (show _ < _; (try simp only [World.size_alloc, World.size_setCell, World.size_drew, setRow_size]); omega)))); clear hb1; (try clear hr_l); (try clear hr_c); (try clear hr_f); (try clear hr); have hr := hr'; clear hr'; (try simp only [List.set_cons_zero, List.set_cons_succ] at hr); have hr_l := hr.lt; have hr_c := hr.cell; have hr_f := hr.frozen; (try clear hp_l); (try clear hp_c); (try clear hp_f); (try clear hp); have hp := hp'; clear hp'; (try simp only [List.set_cons_zero, List.set_cons_succ] at hp); have hp_l := hp.lt; have hp_c := hp.cell; have hp_f := hp.frozen; (try clear hq_l); (try clear hq_c); (try clear hq_f); (try clear hq); have hq := hq'; clear hq'; (try simp only [List.set_cons_zero, List.set_cons_succ] at hq); have hq_l := hq.lt; have hq_c := hq.cell; have hq_f := hq.frozen; (try clear hB hs); have hB := hB'; clear hB'; have hs := hB.size
  have hst1 := fun g => storeCells73 (g := g) hp
  have hst2 := fun cs g => storeCells73 (g := g) (hq.otherRow (c := cs) (Ne.symm hne_1))
  go_wp2
  clear hst1 hst2
  refine Ear.wp_world (Ear.Sh w.heap.size w [(w.heap.size + 2, _, _), (hp_B, _, _), (hq_B, _, _)]) (.cons (by (repeat' (first | (show Ear.Blk _ _ _ _; with_reducible assumption) | (with_reducible exact Ear.Blk.new _ _ _) | (with_reducible refine Ear.Blk.new' ?_; (simp only [World.size_alloc, World.size_setCell, World.size_drew, setRow_size]; done)) | (with_reducible apply Ear.Blk.alloc) | (with_reducible apply Ear.Blk.drew) | (with_reducible apply Ear.Blk.setC) | (with_reducible apply Ear.Blk.setC' (e := by omega)) | (with_reducible apply Ear.Blk.rowC (e := by first | rfl | omega)) | (with_reducible apply Ear.Blk.otherRow) | (with_reducible apply Ear.Blk.other) | (show _ ≠ _; (try simp only [World.size_alloc, World.size_setCell, World.size_drew, setRow_size]); omega) | (show _ < _; (try simp only [World.size_alloc, World.size_setCell, World.size_drew, setRow_size]); omega)))) (.cons (by (repeat' (first | (show Ear.Blk _ _ _ _; with_reducible assumption) | (with_reducible exact Ear.Blk.new _ _ _) | (with_reducible refine Ear.Blk.new' ?_; (simp only [World.size_alloc, World.size_setCell, World.size_drew, setRow_size]; done)) | (with_reducible apply Ear.Blk.alloc) | (with_reducible apply Ear.Blk.drew) | (with_reducible apply Ear.Blk.setC) | (with_reducible apply Ear.Blk.setC' (e := by omega)) | (with_reducible apply Ear.Blk.rowC (e := by first | rfl | omega)) | (with_reducible apply Ear.Blk.otherRow) | (with_reducible apply Ear.Blk.other) | (show _ ≠ _; (try simp only [World.size_alloc, World.size_setCell, World.size_drew, setRow_size]); omega) | (show _ < _; (try simp only [World.size_alloc, World.size_setCell, World.size_drew, setRow_size]); omega)))) (.cons (by (repeat' (first | (show Ear.Blk _ _ _ _; with_reducible assumption) | (with_reducible exact Ear.Blk.new _ _ _) | (with_reducible refine Ear.Blk.new' ?_; (simp only [World.size_alloc, World.size_setCell, World.size_drew, setRow_size]; done)) | (with_reducible apply Ear.Blk.alloc) | (with_reducible apply Ear.Blk.drew) | (with_reducible apply Ear.Blk.setC) | (with_reducible apply Ear.Blk.setC' (e := by omega)) | (with_reducible apply Ear.Blk.rowC (e := by first | rfl | omega)) | (with_reducible apply Ear.Blk.otherRow) | (with_reducible apply Ear.Blk.other) | (show _ ≠ _; (try simp only [World.size_alloc, World.size_setCell, World.size_drew, setRow_size]); omega) | (show _ < _; (try simp only [World.size_alloc, World.size_setCell, World.size_drew, setRow_size]); omega)))) (.nil (by (repeat' (first | (with_reducible exact Below.refl _ _) | (with_reducible assumption) | (show Below 0 _ _; with_reducible refine Below.mono (by assumption) (Nat.zero_le _)) | (with_reducible refine below_setRow ?_ ?_ _) | (with_reducible refine Below.alloc ?_ ?_ _) | (with_reducible refine Below.drew ?_) | (with_reducible refine Below.setCell ?_ ?_ _) | (with_reducible refine Below.frame ?_ _) | (with_reducible exact Nat.le_refl _) | omega | (simp only [World.size_alloc, World.size_setCell, World.size_drew, setRow_size]; omega) | (simp; omega) | (simp; done)))))))) ?_; (try clear hr_l); (try clear hr_c); (try clear hr_f); (try clear hr); (try clear hp_l); (try clear hp_c); (try clear hp_f); (try clear hp); (try clear hq_l); (try clear hq_c); (try clear hq_f); (try clear hq); (try clear hB hs); rintro w2 ⟨hr, hp, hq, hB⟩; replace hB : Below w.heap.size w w2 := hB; have hs := hB.size; (try simp only [List.set_cons_zero, List.set_cons_succ] at hr); (try simp only [List.set_cons_zero, List.set_cons_succ] at hp); (try simp only [List.set_cons_zero, List.set_cons_succ] at hq); have hr_l := hr.lt; have hr_c := hr.cell; have hr_f := hr.frozen; have hp_l := hp.lt; have hp_c := hp.cell; have hp_f := hp.frozen; have hq_l := hq.lt; have hq_c := hq.cell; have hq_f := hq.frozen
  clear hp_c hq_c
  go_loopw [7] (fun i wr => ∃ k : Nat, k ≤ 100 ∧ i = .int .i64 k ∧ Ear.Sh w.heap.size w [(w.heap.size + 2, 26, [.int .u32 0, .int .u32 0, .int .u32 0, .int .u32 0]), (hp_B, 106, rowL fun j => if j < k then a.getLsbD j && !b.getLsbD j else a.getLsbD j), (hq_B, 106, rowL b.getLsbD)] wr) (fun i _ => 100 - (intOf i).toNat)
  case atStart =>
    refine ⟨0, by omega, rfl, .cons hr (.cons (hp.renew (mix_zero _ _).symm) (.cons hq (.nil hB)))⟩
  case round =>
    clear hr hr_l hr_c hr_f hp hp_l hp_f hq hq_l hq_f hB hs
    obtain ⟨k, hk, rfl, hr, hp, hq, hB⟩ := hrel
    replace hB : Below w.heap.size w _ := hB
    have hs := hB.size
    have hr_l := hr.lt
    have hp_l := hp.lt
    have hq_l := hq.lt
    by_cases hlt : k < 100
    · have hpc := hp.cell k
      rw [mix_get hlt] at hpc
      have hpf := hp.frozen k
      have hqc := hq.cell k
      rw [rowL_get _ _ hlt] at hqc
      obtain ⟨x, hx⟩ : ∃ x, a.getLsbD k = x := ⟨_, rfl⟩
      obtain ⟨y, hy⟩ : ∃ y, b.getLsbD k = y := ⟨_, rfl⟩
      have HG : (fun j => a.getLsbD j && !b.getLsbD j) k = (x && !y) := by simp only [hx, hy]
      rw [hx] at hpc
      rw [hy] at hqc
      have HS := Lib.hid (mix_set (f := a.getLsbD) (g := fun j => a.getLsbD j && !b.getLsbD j) HG)
      clear hx hy HG
      cases x
      all_goals
        have hp' := Lib.hid hp
        clear hp
        go_wp2
        go_roundw
        case rel =>
          refine ⟨k + 1, hlt, by go_num, .cons (by (repeat' (first | (show Ear.Blk _ _ _ _; with_reducible assumption) | (with_reducible exact Ear.Blk.new _ _ _) | (with_reducible refine Ear.Blk.new' ?_; (simp only [World.size_alloc, World.size_setCell, World.size_drew, setRow_size]; done)) | (with_reducible apply Ear.Blk.alloc) | (with_reducible apply Ear.Blk.drew) | (with_reducible apply Ear.Blk.setC) | (with_reducible apply Ear.Blk.setC' (e := by omega)) | (with_reducible apply Ear.Blk.rowC (e := by first | rfl | omega)) | (with_reducible apply Ear.Blk.otherRow) | (with_reducible apply Ear.Blk.other) | (show _ ≠ _; (try simp only [World.size_alloc, World.size_setCell, World.size_drew, setRow_size]); omega) | (show _ < _; (try simp only [World.size_alloc, World.size_setCell, World.size_drew, setRow_size]); omega)))) (.cons (Ear.Blk.set' hp'.out ?_) (.cons (by (repeat' (first | (show Ear.Blk _ _ _ _; with_reducible assumption) | (with_reducible exact Ear.Blk.new _ _ _) | (with_reducible refine Ear.Blk.new' ?_; (simp only [World.size_alloc, World.size_setCell, World.size_drew, setRow_size]; done)) | (with_reducible apply Ear.Blk.alloc) | (with_reducible apply Ear.Blk.drew) | (with_reducible apply Ear.Blk.setC) | (with_reducible apply Ear.Blk.setC' (e := by omega)) | (with_reducible apply Ear.Blk.rowC (e := by first | rfl | omega)) | (with_reducible apply Ear.Blk.otherRow) | (with_reducible apply Ear.Blk.other) | (show _ ≠ _; (try simp only [World.size_alloc, World.size_setCell, World.size_drew, setRow_size]); omega) | (show _ < _; (try simp only [World.size_alloc, World.size_setCell, World.size_drew, setRow_size]); omega)))) (.nil (by (repeat' (first | (with_reducible exact Below.refl _ _) | (with_reducible assumption) | (show Below 0 _ _; with_reducible refine Below.mono (by assumption) (Nat.zero_le _)) | (with_reducible refine below_setRow ?_ ?_ _) | (with_reducible refine Below.alloc ?_ ?_ _) | (with_reducible refine Below.drew ?_) | (with_reducible refine Below.setCell ?_ ?_ _) | (with_reducible refine Below.frame ?_ _) | (with_reducible exact Nat.le_refl _) | omega | (simp only [World.size_alloc, World.size_setCell, World.size_drew, setRow_size]; omega) | (simp; omega) | (simp; done)))))))⟩
          first | exact HS.out | (have := HS.out; simpa using this)
        case measure => simp [intOf]; omega
    · have hk' : k = 100 := by omega
      subst hk'
      rw [mix_all] at hp
      have hr_c := hr.cell
      have hr_f := hr.frozen
      have hp_f := hp.frozen
      go_wp2_with (first | (refine wpList_load_row rfl 106 _ rfl _ rfl _ _ (0, 0) _ (hp) Try.underlying106 rfl (size73 _) ?_) | (go_at_call 77; (with_reducible refine Calls.mono (Make_eq (v := a &&& ~~~b) (fun i hi => by simp only [BitVec.getLsbD_or, BitVec.getLsbD_and, BitVec.getLsbD_not, Bool.and_assoc, show decide (i < 128) = true from by simp; omega, Bool.true_and]) _) ?_); rintro e w3 ⟨rfl, hb3⟩; have hB' : Below w.heap.size w w3 := Below.trans (by (repeat' (first | (with_reducible exact Below.refl _ _) | (with_reducible assumption) | (show Below 0 _ _; with_reducible refine Below.mono (by assumption) (Nat.zero_le _)) | (with_reducible refine below_setRow ?_ ?_ _) | (with_reducible refine Below.alloc ?_ ?_ _) | (with_reducible refine Below.drew ?_) | (with_reducible refine Below.setCell ?_ ?_ _) | (with_reducible refine Below.frame ?_ _) | (with_reducible exact Nat.le_refl _) | omega | (simp only [World.size_alloc, World.size_setCell, World.size_drew, setRow_size]; omega) | (simp; omega) | (simp; done)))) (hb3.mono (by (try simp only [World.size_alloc, World.size_setCell, World.size_drew, setRow_size]); omega)); have hr' := (show Ear.Blk w3 (w.heap.size + 2) _ _ from by (repeat' (first | (show Ear.Blk _ _ _ _; with_reducible assumption) | (with_reducible exact Ear.Blk.new _ _ _) | (with_reducible refine Ear.Blk.new' ?_; (simp only [World.size_alloc, World.size_setCell, World.size_drew, setRow_size]; done)) | (with_reducible apply Ear.Blk.alloc) | (with_reducible apply Ear.Blk.drew) | (with_reducible apply Ear.Blk.setC) | (with_reducible apply Ear.Blk.setC' (e := by omega)) | (with_reducible apply Ear.Blk.rowC (e := by first | rfl | omega)) | (with_reducible apply Ear.Blk.otherRow) | (with_reducible apply Ear.Blk.other) | (with_reducible apply Ear.Blk.below (hb := hb3)) | (show _ ≠ _; (try simp only [World.size_alloc, World.size_setCell, World.size_drew, setRow_size]); omega) | (show _ < _; (try simp only [World.size_alloc, World.size_setCell, World.size_drew, setRow_size]); omega)))); clear hb3; (try clear hr_l); (try clear hr_c); (try clear hr_f); (try clear hr); have hr := hr'; clear hr'; (try simp only [List.set_cons_zero, List.set_cons_succ] at hr); have hr_l := hr.lt; have hr_c := hr.cell; have hr_f := hr.frozen; (try clear hB hs); have hB := hB'; clear hB'; have hs := hB.size))
      refine Ear.bp_world (Ear.Sh w.heap.size w [(w.heap.size + 2, _, _)]) (.cons (by (repeat' (first | (show Ear.Blk _ _ _ _; with_reducible assumption) | (with_reducible exact Ear.Blk.new _ _ _) | (with_reducible refine Ear.Blk.new' ?_; (simp only [World.size_alloc, World.size_setCell, World.size_drew, setRow_size]; done)) | (with_reducible apply Ear.Blk.alloc) | (with_reducible apply Ear.Blk.drew) | (with_reducible apply Ear.Blk.setC) | (with_reducible apply Ear.Blk.setC' (e := by omega)) | (with_reducible apply Ear.Blk.rowC (e := by first | rfl | omega)) | (with_reducible apply Ear.Blk.otherRow) | (with_reducible apply Ear.Blk.other) | (show _ ≠ _; (try simp only [World.size_alloc, World.size_setCell, World.size_drew, setRow_size]); omega) | (show _ < _; (try simp only [World.size_alloc, World.size_setCell, World.size_drew, setRow_size]); omega)))) (.nil (by (repeat' (first | (with_reducible exact Below.refl _ _) | (with_reducible assumption) | (show Below 0 _ _; with_reducible refine Below.mono (by assumption) (Nat.zero_le _)) | (with_reducible refine below_setRow ?_ ?_ _) | (with_reducible refine Below.alloc ?_ ?_ _) | (with_reducible refine Below.drew ?_) | (with_reducible refine Below.setCell ?_ ?_ _) | (with_reducible refine Below.frame ?_ _) | (with_reducible exact Nat.le_refl _) | omega | (simp only [World.size_alloc, World.size_setCell, World.size_drew, setRow_size]; omega) | (simp; omega) | (simp; done)))))) ?_; (try clear hr_l); (try clear hr_c); (try clear hr_f); (try clear hr); (try clear hB hs); rintro w4 ⟨hr, hB⟩; replace hB : Below w.heap.size w w4 := hB; have hs := hB.size; (try simp only [List.set_cons_zero, List.set_cons_succ] at hr); have hr_l := hr.lt; have hr_c := hr.cell; have hr_f := hr.frozen
      refine bodyPost_ret (v := .agg #[.int .u32 (Ear.wd (Ear.clean (a &&& ~~~b)) 0), .int .u32 (Ear.wd (Ear.clean (a &&& ~~~b)) 1), .int .u32 (Ear.wd (Ear.clean (a &&& ~~~b)) 2), .int .u32 (Ear.wd (Ear.clean (a &&& ~~~b)) 3)]) (by simp [results, Try.results51, go_sem, *]) rfl ⟨rfl, hB⟩
end Go.Proofs.Ytfnolmlmmimehaa
end
section
namespace Go.Proofs.Ytfnolmlmmimehaa
set_option linter.unusedSimpArgs false
set_option linter.unusedVariables false
open Go.RowKit

attribute [local go_sem] rowL_len storeNew
attribute [local irreducible] Ear.wd Ear.one Ear.clean
/-- A slice's cells, to be read. -/
def LiesV (xs : List Value) (base : Option Addr) (w : World) : Prop := ∀ i, i < xs.length → ∃ B o, base = some ⟨B, o, none⟩ ∧ B < w.heap.size ∧ w.cell? ⟨B, o + i, none⟩ = xs[i]?
theorem LiesV.below {xs : List Value} {base : Option Addr} {w w' : World} (h : LiesV xs base w) (hb : Below w.heap.size w w') : LiesV xs base w' := by
  intro i hi
  obtain ⟨B, o, e, hB, hc⟩ := h i hi
  exact ⟨B, o, e, Nat.lt_of_lt_of_le hB hb.size, by rw [hb.cell (p := ⟨B, o + i, none⟩) hB]; exact hc⟩
theorem LiesV.nil (base : Option Addr) (w : World) : LiesV [] base w := fun i hi => by simp at hi
def intsV (l : List Int) : List Value := l.map (Value.int .i64)
theorem intsV_len (l : List Int) : (intsV l).length = l.length := by simp [intsV]
theorem intsV_get {l : List Int} {i : Nat} (h : i < l.length) : (intsV l)[i]? = some (.int .i64 l[i]) := by simp [intsV, h]
theorem intsV_snoc (l : List Int) (x : Int) : intsV (l ++ [x]) = intsV l ++ [.int .i64 x] := by simp [intsV]
theorem LiesV.lies {l : List Int} {base : Option Addr} {w : World} (h : LiesV (intsV l) base w) : Lies l base w := by
  intro i hi
  obtain ⟨B, o, e, hB, hc⟩ := h i (by rw [intsV_len]; exact hi)
  exact ⟨B, o, e, hB, by rw [hc, intsV_get hi]⟩
theorem Lies.liesV {l : List Int} {base : Option Addr} {w : World} (h : Lies l base w) : LiesV (intsV l) base w := by
  intro i hi
  rw [intsV_len] at hi
  obtain ⟨B, o, e, hB, hc⟩ := h i hi
  exact ⟨B, o, e, hB, by rw [hc, intsV_get hi]⟩
theorem Lies.keep {l : List Int} {base : Option Addr} {w w' : World} (h : Lies l base w) (hb : Below w.heap.size w w') : Lies l base w' := (h.liesV.below hb).lies
theorem owns_lies {w : World} {b e n cap : Nat} {base : Option Addr} {xs : List Value} (h : w.ownsRow b e 1 (.slice base n cap) n xs) : LiesV xs base w := by
  intro i hi
  obtain ⟨hl, ⟨hv, hn⟩ | ⟨g, cap', cur, hv, hb, hc, h1, h2, h3, h4⟩⟩ := h
  · omega
  · simp only [Value.slice.injEq] at hv
    obtain ⟨rfl, -, rfl⟩ := hv
    refine ⟨g, 0, rfl, (Array.getElem?_eq_some_iff.1 hc).1, ?_⟩
    rw [cell_of_row w g (0 + i) cur e (0, 0) hc, ← h4]
    simp only [Nat.zero_add, Nat.mul_one] at hl ⊢
    rw [List.getElem?_take]
    simp; omega
theorem owns_len {w : World} {b e n : Nat} {v : Value} {xs : List Value} (h : w.ownsRow b e 1 v n xs) : xs.length = n := by have := h.1; omega
theorem owns_base {w : World} {b b' e s n : Nat} {v : Value} {xs : List Value} (h : w.ownsRow b e s v n xs) (hb : b' ≤ b) : w.ownsRow b' e s v n xs := by
  obtain ⟨hl, h | ⟨g, cap', cur, hv, hb1, hc⟩⟩ := h
  · exact ⟨hl, .inl h⟩
  · exact ⟨hl, .inr ⟨g, cap', cur, hv, by omega, hc⟩⟩
theorem owns_slice {w : World} {b e s n : Nat} {v : Value} {xs : List Value} (h : w.ownsRow b e s v n xs) : ∃ base cap, v = .slice base n cap := by
  obtain ⟨hl, ⟨hv, hn⟩ | ⟨g, cap', cur, hv, hb1, hc⟩⟩ := h
  · exact ⟨none, 0, by rw [hv, hn]⟩
  · exact ⟨_, _, hv⟩
theorem owns_below {w w' : World} {b e s n : Nat} {v : Value} {xs : List Value} (h : w.ownsRow b e s v n xs) (hb : Below w.heap.size w w') : w'.ownsRow b e s v n xs := by
  obtain ⟨hl, h | ⟨g, cap', cur, hv, hb1, hc, hr⟩⟩ := h
  · exact ⟨hl, .inl h⟩
  · exact ⟨hl, .inr ⟨g, cap', cur, hv, hb1, (hb.block g (Array.getElem?_eq_some_iff.1 hc).1).trans hc, hr⟩⟩
theorem owns_set {w : World} {b e s n g i : Nat} {u v : Value} {xs : List Value} (h : w.ownsRow b e s v n xs) (hg : g < b) : (w.setCell ⟨g, i, none⟩ u).ownsRow b e s v n xs := by
  obtain ⟨hl, h | ⟨g', cap', cur, hv, hb1, hc, hr⟩⟩ := h
  · exact ⟨hl, .inl h⟩
  · exact ⟨hl, .inr ⟨g', cap', cur, hv, hb1, (heap_setCell_other w _ g' u (by show g' ≠ g; omega)).trans hc, hr⟩⟩
namespace Ear
theorem Blk.grown {W W' : World} {B T : Nat} {cs : List Value} {row : Option Nat} (h : Blk W B T cs) (hg : W.grownBy W' row) (hn : some B ≠ row) : Blk W' B T cs := (hg.block B h.lt hn).trans h
theorem own_ne {w : World} {b e s n : Nat} {v : Value} {xs : List Value} (h : w.ownsRow b e s v n xs) {B : Nat} (hB : B < b) : some B ≠ v.ownBlock := fun he => by
  have := (h.lt B he.symm).1; omega
end Ear
theorem info_int : (Try.prog.info? 3).map (fun i => (i.zero, i.size, i.bytes)) = some (some (.int .i64 0), 1, 8) := by kernel_rfl

/-- Two lists, held against each other. -/
def sameTo (l m : List Int) (k : Nat) : Prop := ∀ i, i < k → l[i]? = m[i]?
/-- The ids of a set below k. -/
def idsTo (v : BitVec 128) (k : Nat) : List Int := ((List.range k).filter v.getLsbD).map fun i : Nat => (i : Int)
def ids (v : BitVec 128) : List Int := idsTo v 100
theorem idsTo_succ (v : BitVec 128) (k : Nat) : idsTo v (k + 1) = if v.getLsbD k then idsTo v k ++ [(k : Int)] else idsTo v k := by
  unfold idsTo
  rw [List.range_succ, List.filter_append, List.map_append]
  cases h : v.getLsbD k <;> simp [h]
theorem idsTo_len (v : BitVec 128) (k : Nat) : (idsTo v k).length ≤ k := by
  unfold idsTo
  rw [List.length_map]
  have := List.length_filter_le v.getLsbD (List.range k)
  rw [List.length_range] at this
  exact this

def idsPost (v : BitVec 128) (w : World) (e : Ending) (w' : World) : Prop :=
  ∃ base cap, e = .returned (.slice base (ids v).length cap) ∧ w'.ownsRow w.heap.size 3 1 (.slice base (ids v).length cap) (ids v).length (intsV (ids v)) ∧ Below w.heap.size w w'
def idsRel (v : BitVec 128) (w : World) (n1 B : Nat) (vl i : Value) (wr : World) : Prop :=
  ∃ k : Nat, k ≤ 100 ∧ i = .int .i64 k ∧ wr.ownsRow n1 3 1 vl (idsTo v k).length (intsV (idsTo v k)) ∧ Ear.Blk wr B 106 (rowL v.getLsbD) ∧ n1 ≤ wr.heap.size ∧ Below w.heap.size w wr
end Go.Proofs.Ytfnolmlmmimehaa
end
