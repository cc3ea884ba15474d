/-
  Decode: the deferred closure, the function.
-/
import Derived.Test.YtklfkfnckdeifaaWireQ
import Derived.Test.YtklfkfnckdeifaaWireQb
import Derived.Recover
import Derived.Defers
namespace Go.Proofs.Ytklfkfnckdeifaa
set_option linter.unusedSimpArgs false
set_option linter.unusedVariables false
open Go.RowKit
attribute [local irreducible] Ear.Pl.wpQ Ear.Pa.wpQ Ear.Fe.wpQ Ear.Fa.wpQ
theorem note_calls {w : World} {R B o cap : Nat} {l : List Int} {n c : Int} (h : RdAt w R B o cap 0 l) (hb : byteOk l) (h1 : 1 ≤ n) (h2 : n ≤ 100) (hl : l.length ≤ 5000) (hc : decC l n = c) :
    Calls Try.prog 43 #[.pointer (some ⟨R, 0, none⟩), .int .i64 n] w (notePost l n R w c) := by
  by_cases hx : 1 ≤ l.getD 2 0 ∧ l.getD 2 0 ≤ 3
  · rcases (by omega : l.getD 2 0 = 1 ∨ l.getD 2 0 = 2 ∨ l.getD 2 0 = 3) with hk | hk | hk
    · exact note_1 h hb h1 h2 hl hc (.inl hk)
    · exact note_2 h hb h1 h2 hl hc (.inl hk)
    · exact note_3 h hb h1 h2 hl hc (.inl hk)
  · exact note_1 h hb h1 h2 hl hc (.inr hx)
theorem ta_nil (w : World) : Sem.run Try.prog (Instr.typeAssert .nilIface 20 85 true) w = .ok (.tuple #[.int .i64 0, .bool false]) w := by kernel_rfl
theorem ta_ref (c : Int) (w : World) : Sem.run Try.prog (Instr.typeAssert (.iface 85 (.int .i64 c)) 20 85 true) w = .ok (.tuple #[.int .i64 c, .bool true]) w := by kernel_rfl
attribute [local go_sem] ta_nil ta_ref
set_option maxRecDepth 100000 in
set_option maxHeartbeats 1000000 in
theorem catch_idle (p q : Addr) (w : World) :
    CallsD Try.prog 42 #[.pointer (some p), .pointer (some q)] .returning w fun e u' w' => e = .returned (.tuple #[]) ∧ u' = .returning ∧ w' = w := by
  refine callsD_of_wpS Try.func42 rfl fun c₀ cs hu => ?_
  apply wpS_seq
  apply wpS_region
  simp [wpOpsS, go_sem, recoverD, hu, Try.ntmps42, Exit.thenS]
  simp only [Array.replicate_succ, Array.replicate_zero, List.push_toArray, List.append_toArray, List.nil_append, List.cons_append, List.setIfInBounds_toArray, List.set_cons_succ, List.set_cons_zero]
  refine wpS_of_wp ?_
  go_wp2
  cases c₀
  simp_all [bodyPostS, results, Try.results42]
set_option maxRecDepth 100000 in
set_option maxHeartbeats 1000000 in
theorem catch_panicking (P Q : Nat) (c x : Int) (v : Value) (w : World) (hp : w.cell? ⟨P, 0, none⟩ = some v) (hpf : w.frozen? ⟨P, 0, none⟩ = false) (hq : w.cell? ⟨Q, 0, none⟩ = some (.int .i64 x)) (hqf : w.frozen? ⟨Q, 0, none⟩ = false) (hne : ¬ Q = P) (hne' : ¬ P = Q) :
    CallsD Try.prog 42 #[.pointer (some ⟨P, 0, none⟩), .pointer (some ⟨Q, 0, none⟩)] (.panicking ({ v := .iface 85 (.int .i64 c), recovered := false } :: [])) w fun e u' w' =>
      e = .returned (.tuple #[]) ∧ u' = .panicking ({ v := .iface 85 (.int .i64 c), recovered := true } :: []) ∧ w' = (w.setCell ⟨P, 0, none⟩ .nilIface).setCell ⟨Q, 0, none⟩ (.int .i64 c) := by
  refine callsD_of_wpS Try.func42 rfl fun c₀ cs hu => ?_
  apply wpS_seq
  apply wpS_region
  simp [wpOpsS, go_sem, recoverD, hu, Try.ntmps42, Exit.thenS]
  simp only [Array.replicate_succ, Array.replicate_zero, List.push_toArray, List.append_toArray, List.nil_append, List.cons_append, List.setIfInBounds_toArray, List.set_cons_succ, List.set_cons_zero]
  refine wpS_of_wp ?_
  go_wp2
  simp [bodyPostS, results, Try.results42, hu]
/-- What Decode refuses with. -/
def decodeC (l : List Int) (n : Int) : Int := if n < 1 ∨ 100 < n then 1 else if 1024 < l.length then 2 else decC l n
attribute [local irreducible] decC atK manyK newsK
abbrev decPost (l : List Int) (n : Int) (w : World) (c : Int) (e : Ending) (w' : World) : Prop :=
  (c = 0 → ∃ nb nc, e = .returned (.tuple #[noteV l n nb nc, .int .i64 0]) ∧ w'.ownsRow w.heap.size 84 3 (.slice nb (manyK l (atK l n)) nc) (manyK l (atK l n)) (ntsV (newsK l (atK l n + 1) (manyK l (atK l n)))) ∧ Below w.heap.size w w') ∧ (c ≠ 0 → e = .returned (.tuple #[.nilIface, .int .i64 c]) ∧ Below w.heap.size w w')
theorem noteV_iface (l : List Int) (n : Int) (nb : Option Addr) (nc : Nat) : ∃ T v, noteV l n nb nc = .iface T v := by
  unfold noteV
  split
  · exact ⟨_, _, rfl⟩
  · split
    · exact ⟨_, _, rfl⟩
    · exact ⟨_, _, rfl⟩
theorem RdAt.new {w : World} {B o cap : Nat} {l : List Int} (hl : LiesV (bytesV l) (some ⟨B, o, none⟩) w) (hB : B < w.heap.size) (hc : l.length ≤ cap) : RdAt (w.alloc (.cells #[.slice (some ⟨B, o, none⟩) l.length cap, .slice (some ⟨B, o, none⟩) l.length cap] 89)) w.heap.size B o cap 0 l :=
  ⟨⟨o, fun _ => rfl, Ear.Blk.new _ _ _⟩, LiesV.below hl ((Below.refl _ w).alloc (Nat.le_refl _) _), by omega, Nat.zero_le _, hc⟩
set_option maxRecDepth 100000 in
set_option maxHeartbeats 4000000 in
theorem Decode_of {l : List Int} {n c : Int} {base : Option Addr} {cap : Nat} {w : World} (hc : decodeC l n = c) (hN : l.length ≤ 140737488351232) (hnote : 1 ≤ n → n ≤ 100 → l.length ≤ 1024 → Calls Try.prog 43 #[.pointer (some ⟨w.heap.size + 1 + 1, 0, none⟩), .int .i64 n] (((w.alloc (.cells #[.nilIface] 36)).alloc (.cells #[.int .i64 0] 38)).alloc (.cells #[.slice base l.length cap, .slice base l.length cap] 89)) (notePost l n (w.heap.size + 1 + 1) (((w.alloc (.cells #[.nilIface] 36)).alloc (.cells #[.int .i64 0] 38)).alloc (.cells #[.slice base l.length cap, .slice base l.length cap] 89)) (decC l n))) :
    Calls Try.prog 24 #[.slice base l.length cap, .int .i64 n] w (decPost l n w c) := by
  have hmf : ∀ (fn : Fn) (first cap : Array Value) (w : World), (Instr.makeFunc fn first cap).run Try.prog w = .ok (.func fn first cap) w := fun _ _ _ _ => rfl
  have HN := Lib.hid hnote
  unfold decodeC at hc
  clear hnote
  by_cases h1 : n < 1 ∨ 100 < n
  · rw [if_pos h1] at hc
    subst hc
    by_cases ha : n < 1
    · have d1 : decide (n < 1) = true := decide_eq_true ha
      go_enter_defers Try.func24, Try.ntmps24
      go_wp2
      exact ⟨.tuple #[.nilIface, .int .i64 1], by simp [results, Try.results24, go_sem], fun h => absurd h (by decide), fun _ => ⟨rfl, by (repeat' (first | (with_reducible exact Below.refl _ _) | (with_reducible assumption) | (show Below 0 _ _; with_reducible refine Below.mono (by assumption) (Nat.zero_le _)) | (with_reducible refine below_setRow ?_ ?_ _) | (with_reducible refine Below.alloc ?_ ?_ _) | (with_reducible refine Below.drew ?_) | (with_reducible refine Below.setCell ?_ ?_ _) | (with_reducible refine Below.frame ?_ _) | (with_reducible exact Nat.le_refl _) | omega | (simp only [World.size_alloc, World.size_setCell, World.size_drew, setRow_size]; omega) | (simp; omega) | (simp; done)))⟩⟩
    · have d1 : decide (n < 1) = false := decide_eq_false ha
      have d2 : decide (100 < n) = true := decide_eq_true (by omega)
      go_enter_defers Try.func24, Try.ntmps24
      go_wp2
      exact ⟨.tuple #[.nilIface, .int .i64 1], by simp [results, Try.results24, go_sem], fun h => absurd h (by decide), fun _ => ⟨rfl, by (repeat' (first | (with_reducible exact Below.refl _ _) | (with_reducible assumption) | (show Below 0 _ _; with_reducible refine Below.mono (by assumption) (Nat.zero_le _)) | (with_reducible refine below_setRow ?_ ?_ _) | (with_reducible refine Below.alloc ?_ ?_ _) | (with_reducible refine Below.drew ?_) | (with_reducible refine Below.setCell ?_ ?_ _) | (with_reducible refine Below.frame ?_ _) | (with_reducible exact Nat.le_refl _) | omega | (simp only [World.size_alloc, World.size_setCell, World.size_drew, setRow_size]; omega) | (simp; omega) | (simp; done)))⟩⟩
  · rw [if_neg h1] at hc
    have d1 : decide (n < 1) = false := decide_eq_false (by omega)
    have d2 : decide (100 < n) = false := decide_eq_false (by omega)
    by_cases h2 : 1024 < l.length
    · rw [if_pos h2] at hc
      subst hc
      have d3 : decide ((1024 : Int) < (l.length : Int)) = true := decide_eq_true (by omega)
      go_enter_defers Try.func24, Try.ntmps24
      go_wp2
      exact ⟨.tuple #[.nilIface, .int .i64 2], by simp [results, Try.results24, go_sem], fun h => absurd h (by decide), fun _ => ⟨rfl, by (repeat' (first | (with_reducible exact Below.refl _ _) | (with_reducible assumption) | (show Below 0 _ _; with_reducible refine Below.mono (by assumption) (Nat.zero_le _)) | (with_reducible refine below_setRow ?_ ?_ _) | (with_reducible refine Below.alloc ?_ ?_ _) | (with_reducible refine Below.drew ?_) | (with_reducible refine Below.setCell ?_ ?_ _) | (with_reducible refine Below.frame ?_ _) | (with_reducible exact Nat.le_refl _) | omega | (simp only [World.size_alloc, World.size_setCell, World.size_drew, setRow_size]; omega) | (simp; omega) | (simp; done)))⟩⟩
    · rw [if_neg h2] at hc
      have d3 : decide ((1024 : Int) < (l.length : Int)) = false := decide_eq_false (by omega)
      go_enter_defers Try.func24, Try.ntmps24
      go_wp2_with (fail)
      rw [hc] at HN
      (with_reducible refine Calls.mono (HN.out (by omega) (by omega) (by omega)) ?_)
      rintro e w6 ⟨hok, hno⟩
      have hbl : Below w.heap.size w (((w.alloc (.cells #[.nilIface] 36)).alloc (.cells #[.int .i64 0] 38)).alloc (.cells #[.slice base l.length cap, .slice base l.length cap] 89)) := by (repeat' (first | (with_reducible exact Below.refl _ _) | (with_reducible assumption) | (show Below 0 _ _; with_reducible refine Below.mono (by assumption) (Nat.zero_le _)) | (with_reducible refine below_setRow ?_ ?_ _) | (with_reducible refine Below.alloc ?_ ?_ _) | (with_reducible refine Below.drew ?_) | (with_reducible refine Below.setCell ?_ ?_ _) | (with_reducible refine Below.frame ?_ _) | (with_reducible exact Nat.le_refl _) | omega | (simp only [World.size_alloc, World.size_setCell, World.size_drew, setRow_size]; omega) | (simp; omega) | (simp; done)))
      have hz0 : (((w.alloc (.cells #[.nilIface] 36)).alloc (.cells #[.int .i64 0] 38)).alloc (.cells #[.slice base l.length cap, .slice base l.length cap] 89)).heap.size = w.heap.size + 3 := by simp
      have h4 : Ear.Blk (((w.alloc (.cells #[.nilIface] 36)).alloc (.cells #[.int .i64 0] 38)).alloc (.cells #[.slice base l.length cap, .slice base l.length cap] 89)) w.heap.size 36 [.nilIface] := by (repeat' (first | (show Ear.Blk _ _ _ _; with_reducible assumption) | (with_reducible exact Ear.Blk.new _ _ _) | (with_reducible refine Ear.Blk.new' ?_; (simp only [World.size_alloc, World.size_setCell, World.size_drew, setRow_size]; done)) | (with_reducible apply Ear.Blk.alloc) | (with_reducible apply Ear.Blk.drew) | (with_reducible apply Ear.Blk.setC) | (with_reducible apply Ear.Blk.setC' (e := by omega)) | (with_reducible apply Ear.Blk.rowC (e := by first | rfl | omega)) | (with_reducible apply Ear.Blk.otherRow) | (with_reducible apply Ear.Blk.other) | (show _ ≠ _; (try simp only [World.size_alloc, World.size_setCell, World.size_drew, setRow_size]); omega) | (show _ < _; (try simp only [World.size_alloc, World.size_setCell, World.size_drew, setRow_size]); omega)))
      have h5 : Ear.Blk (((w.alloc (.cells #[.nilIface] 36)).alloc (.cells #[.int .i64 0] 38)).alloc (.cells #[.slice base l.length cap, .slice base l.length cap] 89)) (w.heap.size + 1) 38 [.int .i64 0] := by (repeat' (first | (show Ear.Blk _ _ _ _; with_reducible assumption) | (with_reducible exact Ear.Blk.new _ _ _) | (with_reducible refine Ear.Blk.new' ?_; (simp only [World.size_alloc, World.size_setCell, World.size_drew, setRow_size]; done)) | (with_reducible apply Ear.Blk.alloc) | (with_reducible apply Ear.Blk.drew) | (with_reducible apply Ear.Blk.setC) | (with_reducible apply Ear.Blk.setC' (e := by omega)) | (with_reducible apply Ear.Blk.rowC (e := by first | rfl | omega)) | (with_reducible apply Ear.Blk.otherRow) | (with_reducible apply Ear.Blk.other) | (show _ ≠ _; (try simp only [World.size_alloc, World.size_setCell, World.size_drew, setRow_size]); omega) | (show _ < _; (try simp only [World.size_alloc, World.size_setCell, World.size_drew, setRow_size]); omega)))
      by_cases hc0 : c = 0
      · obtain ⟨nb, nc, rfl, hown, hk⟩ := hok hc0
        have h4' := h4.keep hk (fun e => absurd (show w.heap.size = w.heap.size + 1 + 1 from e) (by omega))
        have h5' := h5.keep hk (fun e => absurd (show w.heap.size + 1 = w.heap.size + 1 + 1 from e) (by omega))
        have hbl' : Below w.heap.size w w6 := Ear.Keep.below hbl hk (by omega) (by rintro _ rfl; omega)
        have h4_l := h4'.lt
        have h4_c := h4'.cell
        have h4_f := h4'.frozen
        have h5_l := h5'.lt
        have h5_c := h5'.cell
        have h5_f := h5'.frozen
        rw [hz0] at hown
        obtain ⟨TV, VV, hV⟩ := noteV_iface l n nb nc
        rw [hV]
        clear hok hno hk h4 h5 hbl hz0
        go_wp2
        refine leaves_cons (f := 42) (args := #[.pointer (some ⟨w.heap.size, 0, none⟩), .pointer (some ⟨w.heap.size + 1, 0, none⟩)]) (by simp) (by simp [go_sem]) ?_
        refine (catch_idle _ _ _).mono ?_
        rintro e u' w'' ⟨rfl, rfl, rfl⟩
        have h6 := ((Ear.Blk.setC (i := 0) (v := .iface TV VV) h4').other (a := ⟨w.heap.size + 1, 0, none⟩) (by dsimp only; omega) (.int .i64 0)).cell 0
        have h7 := (Ear.Blk.setC (i := 0) (v := .int .i64 0) (h5'.other (a := ⟨w.heap.size, 0, none⟩) (by dsimp only; omega) (.iface TV VV))).cell 0
        refine ⟨.tuple #[.iface TV VV, .int .i64 0], ?_, fun _ => ⟨nb, nc, by rw [hV], owns_base (owns_set (owns_set hown (by omega)) (by omega)) (by omega), by (repeat' (first | (with_reducible exact Below.refl _ _) | (with_reducible assumption) | (show Below 0 _ _; with_reducible refine Below.mono (by assumption) (Nat.zero_le _)) | (with_reducible refine below_setRow ?_ ?_ _) | (with_reducible refine Below.alloc ?_ ?_ _) | (with_reducible refine Below.drew ?_) | (with_reducible refine Below.setCell ?_ ?_ _) | (with_reducible refine Below.frame ?_ _) | (with_reducible exact Nat.le_refl _) | omega | (simp only [World.size_alloc, World.size_setCell, World.size_drew, setRow_size]; omega) | (simp; omega) | (simp; done)))⟩, fun h => absurd hc0 h⟩
        simp [results, Try.results24, go_sem, h6, h7]
      · obtain ⟨rfl, hk⟩ := hno hc0
        have h4' := h4.keep hk (fun e => absurd (show w.heap.size = w.heap.size + 1 + 1 from e) (by omega))
        have h5' := h5.keep hk (fun e => absurd (show w.heap.size + 1 = w.heap.size + 1 + 1 from e) (by omega))
        have hbl' : Below w.heap.size w w6 := Ear.Keep.below hbl hk (by omega) (by rintro _ rfl; omega)
        clear hok hno hk h4 h5 hbl hz0
        go_wp2
        refine leaves_cons (f := 42) (args := #[.pointer (some ⟨w.heap.size, 0, none⟩), .pointer (some ⟨w.heap.size + 1, 0, none⟩)]) (by simp) (by simp [go_sem]) ?_
        refine (catch_panicking _ _ _ _ _ _ (h4'.cell 0) (h4'.frozen 0) (h5'.cell 0) (h5'.frozen 0) (by simp) (by simp)).mono ?_
        rintro e u' w'' ⟨rfl, rfl, rfl⟩
        have h6 := ((Ear.Blk.setC (i := 0) (v := .nilIface) h4').other (a := ⟨w.heap.size + 1, 0, none⟩) (by dsimp only; omega) (.int .i64 c)).cell 0
        have h7 := (Ear.Blk.setC (i := 0) (v := .int .i64 c) (h5'.other (a := ⟨w.heap.size, 0, none⟩) (by dsimp only; omega) .nilIface)).cell 0
        refine ⟨.tuple #[.nilIface, .int .i64 c], ?_, fun h => absurd h hc0, fun _ => ⟨rfl, by (repeat' (first | (with_reducible exact Below.refl _ _) | (with_reducible assumption) | (show Below 0 _ _; with_reducible refine Below.mono (by assumption) (Nat.zero_le _)) | (with_reducible refine below_setRow ?_ ?_ _) | (with_reducible refine Below.alloc ?_ ?_ _) | (with_reducible refine Below.drew ?_) | (with_reducible refine Below.setCell ?_ ?_ _) | (with_reducible refine Below.frame ?_ _) | (with_reducible exact Nat.le_refl _) | omega | (simp only [World.size_alloc, World.size_setCell, World.size_drew, setRow_size]; omega) | (simp; omega) | (simp; done)))⟩⟩
        simp [results, Try.results24, go_sem, h6, h7]
theorem Decode_some {l : List Int} {n c : Int} {B o cap : Nat} {w : World} (hb : byteOk l) (hl : LiesV (bytesV l) (some ⟨B, o, none⟩) w) (hB : B < w.heap.size) (hcap : l.length ≤ cap) (hc : decodeC l n = c) (hN : l.length ≤ 140737488351232) :
    Calls Try.prog 24 #[.slice (some ⟨B, o, none⟩) l.length cap, .int .i64 n] w (decPost l n w c) := by
  refine Decode_of hc hN (fun h1 h2 h3 => ?_)
  have hlw : LiesV (bytesV l) (some ⟨B, o, none⟩) ((w.alloc (.cells #[.nilIface] 36)).alloc (.cells #[.int .i64 0] 38)) := LiesV.below hl (by (repeat' (first | (with_reducible exact Below.refl _ _) | (with_reducible assumption) | (show Below 0 _ _; with_reducible refine Below.mono (by assumption) (Nat.zero_le _)) | (with_reducible refine below_setRow ?_ ?_ _) | (with_reducible refine Below.alloc ?_ ?_ _) | (with_reducible refine Below.drew ?_) | (with_reducible refine Below.setCell ?_ ?_ _) | (with_reducible refine Below.frame ?_ _) | (with_reducible exact Nat.le_refl _) | omega | (simp only [World.size_alloc, World.size_setCell, World.size_drew, setRow_size]; omega) | (simp; omega) | (simp; done))))
  have h := RdAt.new hlw (by simp; omega) hcap
  simp only [World.size_alloc] at h
  exact note_calls h hb h1 h2 (by omega) rfl
set_option maxRecDepth 100000 in
set_option maxHeartbeats 1000000 in
theorem rbytes_zero {w : World} {R : Nat} {b1 b2 : Option Addr} {c1 c2 : Nat} (hx : Ear.Blk w R 89 [.slice b1 0 c1, .slice b2 0 c2]) :
    Calls Try.prog 52 #[.pointer (some ⟨R, 0, none⟩), .int .i64 2] w fun e w' => e = boomE 76 ∧ w' = w := by
  have hx_l := hx.lt
  have hx_c := hx.cell
  have hx_f := hx.frozen
  go_enter Try.func52, Try.ntmps52
  go_wp2_with (first | (go_at_call 53; (with_reducible refine Calls.mono (need_no _ _) ?_); rintro e w1 ⟨rfl, he⟩; subst w1))
  exact ⟨rfl, rfl, rfl⟩
set_option maxRecDepth 100000 in
set_option maxHeartbeats 1000000 in
theorem note_zero {w : World} {R : Nat} {b1 b2 : Option Addr} {c1 c2 : Nat} {n : Int} (hx : Ear.Blk w R 89 [.slice b1 0 c1, .slice b2 0 c2]) :
    Calls Try.prog 43 #[.pointer (some ⟨R, 0, none⟩), .int .i64 n] w fun e w' => e = boomE 76 ∧ Ear.Keep (fun b => b = R) w w' := by
  have HX := Lib.hid hx
  clear hx
  go_enter Try.func43, Try.ntmps43
  go_wp2_with (go_at_call 52; (with_reducible refine Calls.mono (rbytes_zero (HX.out.below (by (repeat' (first | (with_reducible exact Below.refl _ _) | (with_reducible assumption) | (show Below 0 _ _; with_reducible refine Below.mono (by assumption) (Nat.zero_le _)) | (with_reducible refine below_setRow ?_ ?_ _) | (with_reducible refine Below.alloc ?_ ?_ _) | (with_reducible refine Below.drew ?_) | (with_reducible refine Below.setCell ?_ ?_ _) | (with_reducible refine Below.frame ?_ _) | (with_reducible exact Nat.le_refl _) | omega | (simp only [World.size_alloc, World.size_setCell, World.size_drew, setRow_size]; omega) | (simp; omega) | (simp; done)))) HX.out.lt)) ?_); rintro e w1 ⟨rfl, he⟩; subst w1)
  exact ⟨rfl, rfl, Ear.Keep.of_below (by (repeat' (first | (with_reducible exact Below.refl _ _) | (with_reducible assumption) | (show Below 0 _ _; with_reducible refine Below.mono (by assumption) (Nat.zero_le _)) | (with_reducible refine below_setRow ?_ ?_ _) | (with_reducible refine Below.alloc ?_ ?_ _) | (with_reducible refine Below.drew ?_) | (with_reducible refine Below.setCell ?_ ?_ _) | (with_reducible refine Below.frame ?_ _) | (with_reducible exact Nat.le_refl _) | omega | (simp only [World.size_alloc, World.size_setCell, World.size_drew, setRow_size]; omega) | (simp; omega) | (simp; done))))⟩
theorem Decode_zero {n c : Int} {base : Option Addr} {cap : Nat} {w : World} (hc : decodeC [] n = c) :
    Calls Try.prog 24 #[.slice base 0 cap, .int .i64 n] w (decPost [] n w c) := by
  refine Decode_of (l := []) hc (by simp) (fun h1 h2 h3 => ?_)
  have h76 : decC [] n = 76 := by unfold decC; rw [if_pos (by simp)]
  rw [h76]
  have hb := Ear.Blk.new ((w.alloc (.cells #[.nilIface] 36)).alloc (.cells #[.int .i64 0] 38)) 89 [.slice base 0 cap, .slice base 0 cap]
  simp only [World.size_alloc] at hb
  exact (note_zero hb).mono fun e w' he => ⟨fun h => absurd h (by decide), fun _ => he⟩
theorem Decode_any {l : List Int} {n c : Int} {base : Option Addr} {cap : Nat} {w : World} (hb : byteOk l) (hl : LiesV (bytesV l) base w) (hcap : l.length ≤ cap) (hc : decodeC l n = c) (hN : l.length ≤ 140737488351232) :
    Calls Try.prog 24 #[.slice base l.length cap, .int .i64 n] w (decPost l n w c) := by
  rcases Nat.eq_zero_or_pos l.length with h0 | h0
  · obtain rfl : l = [] := List.length_eq_zero_iff.1 h0
    exact Decode_zero hc
  · obtain ⟨B, o, rfl, hB, -⟩ := hl 0 (by rw [bytesV_len]; omega)
    exact Decode_some hb hl hB hcap hc hN
end Go.Proofs.Ytklfkfnckdeifaa
