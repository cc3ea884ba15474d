/-
  The reader of bytes: a note.
-/
import Derived.Test.YtklfkfnckdeifaaWireO
namespace Go.Proofs.Ytklfkfnckdeifaa
set_option linter.unusedSimpArgs false
set_option linter.unusedVariables false
open Go.RowKit
attribute [local irreducible] Ear.Pl.wpQ Ear.Pa.wpQ Ear.Fe.wpQ Ear.Fa.wpQ Ear.wd withinW numK heardK sumV newsK ntK
/-- What a set of m bytes at k is refused with. -/
def heardC (l : List Int) (n : Int) (k m : Nat) : Int := if l.length < k + m then 76 else if withinW (heardK l k m) n = true then 0 else 74
theorem rset_all {w : World} {R B o cap k : Nat} {l : List Int} {n c : Int} (h : RdAt w R B o cap k l) (hb : byteOk l) (h1 : 1 ≤ n) (h2 : n ≤ 100) (m : Nat) (hm : (m : Int) = (n + 7) / 8) (hc : heardC l n k m = c) :
    Calls Try.prog 55 #[.pointer (some ⟨R, 0, none⟩), .int .i64 n] w fun e w' => (c = 0 → e = .returned (.agg #[.int .u32 (Ear.wd (heardK l k m) 0), .int .u32 (Ear.wd (heardK l k m) 1), .int .u32 (Ear.wd (heardK l k m) 2), .int .u32 (Ear.wd (heardK l k m) 3)]) ∧ RdAt w' R B o cap (k + m) l ∧ Ear.Keep (fun b => b = R) w w') ∧ (c ≠ 0 → e = boomE c ∧ Ear.Keep (fun b => b = R) w w') := by
  unfold heardC at hc
  by_cases s : l.length < k + m
  · rw [if_pos s] at hc; subst hc
    exact (rset_short h h1 h2 m hm s).mono fun e w' he => ⟨fun h => absurd h (by decide), fun _ => he⟩
  · rw [if_neg s] at hc
    cases hr : withinW (heardK l k m) n with
    | true =>
      rw [hr, if_pos rfl] at hc; subst hc
      exact (rset_calls h hb h1 h2 m hm (by omega) hr).mono fun e w' he => ⟨fun _ => by simpa using he, fun h => absurd rfl h⟩
    | false =>
      rw [hr, if_neg (by simp)] at hc; subst hc
      exact (rset_calls h hb h1 h2 m hm (by omega) hr).mono fun e w' he => ⟨fun h => absurd h (by decide), fun _ => by simpa using he⟩
/-- What notices at k are refused with; how many they are. -/
def manyK (l : List Int) (k : Nat) : Nat := (l.getD k 0).toNat
def newsC (l : List Int) (n : Int) (k : Nat) : Int := if l.length < k + 1 then 76 else if n < l.getD k 0 then 75 else newsE l n (manyK l k) (k + 1) (-1)
set_option maxRecDepth 100000 in
theorem rnews_many {w : World} {R B o cap k : Nat} {l : List Int} {n : Int} (h : RdAt w R B o cap k l) (hb : byteOk l) (hk : k + 1 ≤ l.length) (hm : n < l.getD k 0) :
    Calls Try.prog 56 #[.pointer (some ⟨R, 0, none⟩), .int .i64 n] w fun e w' => e = boomE 75 ∧ Ear.Keep (fun b => b = R) w w' := by
  have H := Lib.hid h
  have HB := Lib.hid hb
  have HM := Lib.hid (numK_one l k)
  generalize l.getD k 0 = x at hm HM
  have hd : decide (x ≤ n) = false := decide_eq_false (by omega)
  clear h hb
  go_enter Try.func56, Try.ntmps56
  go_wp2_with (first
    | (go_at_call 54; (with_reducible refine Calls.mono (rnum_ok H.out HB.out 1 rfl (by omega) (by omega) hk) ?_); rintro e w1 ⟨rfl, hr1, hk1⟩; rw [HM.out]; have HK1 := Lib.hid hk1; clear hr1 hk1)
    | (go_at_call 53; (with_reducible refine Calls.mono (need_no _ _) ?_); rintro e w2 ⟨rfl, he⟩; subst w2))
  exact ⟨rfl, rfl, HK1.out⟩
theorem rnews_short {w : World} {R B o cap k : Nat} {l : List Int} {n : Int} (h : RdAt w R B o cap k l) (hk : l.length < k + 1) :
    Calls Try.prog 56 #[.pointer (some ⟨R, 0, none⟩), .int .i64 n] w fun e w' => e = boomE 76 ∧ Ear.Keep (fun b => b = R) w w' := by
  have H := Lib.hid h
  clear h
  go_enter Try.func56, Try.ntmps56
  go_wp2_with (go_at_call 54; (with_reducible refine Calls.mono (rnum_short H.out 1 rfl hk) ?_); rintro e w2 ⟨rfl, he⟩; subst w2)
  exact ⟨rfl, rfl, Ear.Keep.refl _ _⟩
theorem rnews_all {w : World} {R B o cap k : Nat} {l : List Int} {n c : Int} (h : RdAt w R B o cap k l) (hb : byteOk l) (hn : n ≤ 100) (hc : newsC l n k = c) :
    Calls Try.prog 56 #[.pointer (some ⟨R, 0, none⟩), .int .i64 n] w fun e w' => (c = 0 → ∃ nb nc, e = .returned (.slice nb (manyK l k) nc) ∧ w'.ownsRow w.heap.size 84 3 (.slice nb (manyK l k) nc) (manyK l k) (ntsV (newsK l (k + 1) (manyK l k))) ∧ RdAt w' R B o cap (k + 1 + manyK l k * 5) l ∧ Ear.Keep (fun b => b = R) w w') ∧ (c ≠ 0 → e = boomE c ∧ Ear.Keep (fun b => b = R) w w') := by
  unfold newsC at hc
  by_cases s : l.length < k + 1
  · rw [if_pos s] at hc; subst hc
    exact (rnews_short h s).mono fun e w' he => ⟨fun h => absurd h (by decide), fun _ => he⟩
  · rw [if_neg s] at hc
    by_cases s2 : n < l.getD k 0
    · rw [if_pos s2] at hc; subst hc
      exact (rnews_many h hb (by omega) s2).mono fun e w' he => ⟨fun h => absurd h (by decide), fun _ => he⟩
    · rw [if_neg s2] at hc
      have hm : l.getD k 0 = ((manyK l k : Nat) : Int) := by
        unfold manyK
        have := hb.get k (by omega)
        rw [← getD_at (by omega)] at this
        omega
      exact rnews_calls h hb (by omega) hn hm (by omega) hc
/-- The form and the reader, while a note is read. -/
structure NtAt (w0 W : World) (R B o cap p F : Nat) (l : List Int) (cs : List Value) : Prop where
  blk : Ear.Blk W F 95 cs
  rd : RdAt W R B o cap p l
  keep : Ear.Keep (fun b => b = R) w0 W
  hF : F = w0.heap.size
  hR : R < w0.heap.size
  hB : B < w0.heap.size ∨ l.length = 0
theorem NtAt.ne {w0 W : World} {R B o cap p F : Nat} {l : List Int} {cs : List Value} (h : NtAt w0 W R B o cap p F l cs) : R ≠ F := by have := h.hF; have := h.hR; omega
theorem lies0 {l : List Int} {b : Option Addr} {W : World} (h : l.length = 0) : LiesV (bytesV l) b W := fun i hi => by rw [bytesV_len] at hi; omega
theorem NtAt.set {w0 W : World} {R B o cap p F : Nat} {l : List Int} {cs : List Value} (h : NtAt w0 W R B o cap p F l cs) (i : Nat) (v : Value) : NtAt w0 (W.setCell ⟨F, i, none⟩ v) R B o cap p F l (cs.set i v) := by
  have hne := h.ne
  refine ⟨Ear.Blk.setC h.blk, ?_, Ear.Keep.setCell h.keep (.inr (by have := h.hF; dsimp only; omega)) _, h.hF, h.hR, h.hB⟩
  rcases h.hB with hB | hB
  · exact h.rd.keep (keepR W F i v) hne (by have := h.hF; omega)
  · obtain ⟨⟨q, hq, hx⟩, hl, h3, h4, h5⟩ := h.rd
    exact ⟨⟨q, hq, hx.keep (keepR W F i v) hne⟩, lies0 hB, h3, h4, h5⟩
theorem NtAt.next {w0 W W' : World} {R B o cap p p' F : Nat} {l : List Int} {cs : List Value} (h : NtAt w0 W R B o cap p F l cs) (hr : RdAt W' R B o cap p' l) (hk : Ear.Keep (fun b => b = R) W W') : NtAt w0 W' R B o cap p' F l cs :=
  ⟨h.blk.keep hk (fun e => h.ne e.symm), hr, h.keep.trans hk, h.hF, h.hR, h.hB⟩
theorem NtAt.call {w0 W W' : World} {R B o cap p F : Nat} {l : List Int} {cs : List Value} (h : NtAt w0 W R B o cap p F l cs) (hb : Below W.heap.size W W') : NtAt w0 W' R B o cap p F l cs :=
  ⟨h.blk.below hb h.blk.lt, h.rd.keep (S := fun _ => False) (Ear.Keep.of_below hb) id id, h.keep.call hb, h.hF, h.hR, h.hB⟩
theorem nt_num {w0 W : World} {R B o cap p F : Nat} {l : List Int} {cs : List Value} {n : Int} (h : NtAt w0 W R B o cap p F l cs) (hb : byteOk l) (m : Nat) (hm : (m : Int) = n) (h1 : 1 ≤ m) (h5 : m ≤ 5) (hn : ¬ l.length < p + m) :
    Calls Try.prog 54 #[.pointer (some ⟨R, 0, none⟩), .int .i64 n] W fun e W' => e = .returned (.int .i64 (numK l p m)) ∧ NtAt w0 W' R B o cap (p + m) F l cs :=
  (rnum_ok h.rd hb m hm h1 h5 (by omega)).mono fun e W' he => ⟨he.1, h.next he.2.1 he.2.2⟩
theorem nt_one {w0 W : World} {R B o cap p F : Nat} {l : List Int} {cs : List Value} {x : Int} (h : NtAt w0 W R B o cap p F l cs) (hb : byteOk l) (hn : ¬ l.length < p + 1) (hx : l.getD p 0 = x) :
    Calls Try.prog 54 #[.pointer (some ⟨R, 0, none⟩), .int .i64 1] W fun e W' => e = .returned (.int .i64 x) ∧ NtAt w0 W' R B o cap (p + 1) F l cs :=
  (nt_num h hb 1 rfl (by omega) (by omega) hn).mono fun e W' he => ⟨by rw [he.1, numK_one, hx], he.2⟩
theorem nt_short {w0 W : World} {R B o cap p F : Nat} {l : List Int} {cs : List Value} {n : Int} (h : NtAt w0 W R B o cap p F l cs) (m : Nat) (hm : (m : Int) = n) (hn : l.length < p + m) :
    Calls Try.prog 54 #[.pointer (some ⟨R, 0, none⟩), .int .i64 n] W fun e W' => e = boomE 76 ∧ Ear.Keep (fun b => b = R) w0 W' :=
  (rnum_short h.rd m hm hn).mono fun e W' he => ⟨he.1, by rw [he.2]; exact h.keep⟩
theorem nt_need_ok {w0 W : World} {R B o cap p F : Nat} {l : List Int} {cs : List Value} (h : NtAt w0 W R B o cap p F l cs) (c : Int) : Calls Try.prog 53 #[.bool true, .int .i64 c] W fun e W' => e = .returned (.tuple #[]) ∧ NtAt w0 W' R B o cap p F l cs :=
  (need_ok c W).mono fun e W' he => ⟨he.1, by rw [he.2]; exact h⟩
theorem nt_need_no {w0 W : World} {R B o cap p F : Nat} {l : List Int} {cs : List Value} (h : NtAt w0 W R B o cap p F l cs) (c : Int) : Calls Try.prog 53 #[.bool false, .int .i64 c] W fun e W' => e = boomE c ∧ Ear.Keep (fun b => b = R) w0 W' :=
  (need_no c W).mono fun e W' he => ⟨he.1, by rw [he.2]; exact h.keep⟩
/-- What bytes are refused with. -/
def decS (l : List Int) (q : Nat) : Int := if l.length < q + 4 then 76 else if numK l q 4 = sumV (l.take q) then (if q + 4 = l.length then 0 else 2) else 77
def decN (l : List Int) (n : Int) (p : Nat) : Int := if newsC l n p = 0 then decS l (p + 1 + manyK l p * 5) else newsC l n p
def bytesN (n : Int) : Nat := (n.toNat + 7) / 8
def decH (l : List Int) (n : Int) (p : Nat) : Int := if heardC l n p (bytesN n) = 0 then decN l n (p + bytesN n) else heardC l n p (bytesN n)
def decR (l : List Int) (n : Int) : Int := if l.length < 10 then 76 else if 1 ≤ numK l 5 5 ∧ numK l 5 5 ≤ 1099511627775 then (if l.getD 2 0 = 2 then decH l n 10 else decN l n 10) else 73
def decC (l : List Int) (n : Int) : Int :=
  if l.length < 2 then 76 else if l.getD 0 0 = 101 ∧ l.getD 1 0 = 115 then (if l.length < 3 then 76 else if 1 ≤ l.getD 2 0 ∧ l.getD 2 0 ≤ 3 then (if l.length < 4 then 76 else if l.getD 3 0 = n then (if l.length < 5 then 76 else if l.getD 4 0 < n then (if l.getD 2 0 = 3 then decN l n 5 else decR l n) else 72) else 102) else 71) else 70
/-- Where the news of a note begins. -/
def atK (l : List Int) (n : Int) : Nat := if l.getD 2 0 = 3 then 5 else if l.getD 2 0 = 2 then 10 + bytesN n else 10
/-- The note of bytes, as a value. -/
def noteV (l : List Int) (n : Int) (nb : Option Addr) (nc : Nat) : Value :=
  if l.getD 2 0 = 1 then .iface 55 (.agg #[.int .i64 (l.getD 4 0), .int .i64 (numK l 5 5), .slice nb (manyK l (atK l n)) nc])
  else if l.getD 2 0 = 2 then .iface 58 (.agg #[.int .i64 (l.getD 4 0), .int .i64 (numK l 5 5), .int .u32 (Ear.wd (heardK l 10 (bytesN n)) 0), .int .u32 (Ear.wd (heardK l 10 (bytesN n)) 1), .int .u32 (Ear.wd (heardK l 10 (bytesN n)) 2), .int .u32 (Ear.wd (heardK l 10 (bytesN n)) 3), .slice nb (manyK l (atK l n)) nc])
  else .iface 61 (.agg #[.int .i64 (l.getD 4 0), .slice nb (manyK l (atK l n)) nc])

attribute [local irreducible] newsC heardC manyK decS decN decH decR
abbrev notePost (l : List Int) (n : Int) (R : Nat) (w : World) (c : Int) (e : Ending) (w' : World) : Prop :=
  (c = 0 → ∃ nb nc, e = .returned (noteV l n nb nc) ∧ w'.ownsRow w.heap.size 84 3 (.slice nb (manyK l (atK l n)) nc) (manyK l (atK l n)) (ntsV (newsK l (atK l n + 1) (manyK l (atK l n)))) ∧ Ear.Keep (fun b => b = R) w w') ∧ (c ≠ 0 → e = boomE c ∧ Ear.Keep (fun b => b = R) w w')
theorem atK_1 {l : List Int} {n : Int} (h : l.getD 2 0 = 1) : atK l n = 10 := by unfold atK; rw [h]; rfl
theorem atK_2 {l : List Int} {n : Int} (h : l.getD 2 0 = 2) : atK l n = 10 + bytesN n := by unfold atK; rw [h]; rfl
theorem atK_3 {l : List Int} {n : Int} (h : l.getD 2 0 = 3) : atK l n = 5 := by unfold atK; rw [h]; rfl
theorem noteV_1 {l : List Int} {n x r : Int} {nb : Option Addr} {nc : Nat} (h : l.getD 2 0 = 1) (h4 : l.getD 4 0 = x) (hr : numK l 5 5 = r) : noteV l n nb nc = .iface 55 (.agg #[.int .i64 x, .int .i64 r, .slice nb (manyK l 10) nc]) := by unfold noteV; rw [atK_1 h, h, h4, hr]; rfl
theorem noteV_2 {l : List Int} {n x r : Int} {nb : Option Addr} {nc : Nat} (h : l.getD 2 0 = 2) (h4 : l.getD 4 0 = x) (hr : numK l 5 5 = r) : noteV l n nb nc = .iface 58 (.agg #[.int .i64 x, .int .i64 r, .int .u32 (Ear.wd (heardK l 10 (bytesN n)) 0), .int .u32 (Ear.wd (heardK l 10 (bytesN n)) 1), .int .u32 (Ear.wd (heardK l 10 (bytesN n)) 2), .int .u32 (Ear.wd (heardK l 10 (bytesN n)) 3), .slice nb (manyK l (10 + bytesN n)) nc]) := by unfold noteV; rw [atK_2 h, h, h4, hr]; rfl
theorem noteV_3 {l : List Int} {n x : Int} {nb : Option Addr} {nc : Nat} (h : l.getD 2 0 = 3) (h4 : l.getD 4 0 = x) : noteV l n nb nc = .iface 61 (.agg #[.int .i64 x, .slice nb (manyK l 5) nc]) := by unfold noteV; rw [atK_3 h, h, h4]; rfl
theorem lies_take {l : List Int} {b : Option Addr} {W : World} (h : LiesV (bytesV l) b W) (p : Nat) : LiesV (bytesV (l.take p)) b W := by
  intro i hi
  rw [bytesV_len, List.length_take] at hi
  obtain ⟨B, o, he, hB, hc⟩ := h i (by rw [bytesV_len]; omega)
  refine ⟨B, o, he, hB, hc.trans ?_⟩
  rw [bytesV_get _ _ (by omega), bytesV_get _ _ (by rw [List.length_take]; omega), List.getElem_take]
theorem nt_start {w : World} {R B o cap p : Nat} {l : List Int} (h : RdAt w R B o cap p l) (hB : B < w.heap.size ∨ l.length = 0) (cs : List Value) : NtAt w (w.alloc (.cells cs.toArray 95)) R B o cap p w.heap.size l cs :=
  ⟨Ear.Blk.new _ _ _, h.keep (S := fun _ => False) (Ear.Keep.of_below ((Below.refl _ w).alloc (Nat.le_refl _) _)) id id, Ear.Keep.of_below ((Below.refl _ w).alloc (Nat.le_refl _) _), rfl, h.size, hB⟩
theorem nt_bytes {w0 W : World} {R B o cap p F : Nat} {l : List Int} {cs : List Value} {n : Int} (h : NtAt w0 W R B o cap p F l cs) (m : Nat) (hm : (m : Int) = n) (h1 : 1 ≤ m) (hn : ¬ l.length < p + m) :
    Calls Try.prog 52 #[.pointer (some ⟨R, 0, none⟩), .int .i64 n] W fun e W' => e = .returned (.slice (some ⟨B, o + p, none⟩) m (cap - p)) ∧ NtAt w0 W' R B o cap (p + m) F l cs :=
  (rbytes_ok h.rd m hm h1 (by omega)).mono fun e W' he => ⟨he.1, h.next he.2.1 he.2.2⟩
theorem nt_bshort {w0 W : World} {R B o cap p F : Nat} {l : List Int} {cs : List Value} {n : Int} (h : NtAt w0 W R B o cap p F l cs) (m : Nat) (hm : (m : Int) = n) (hn : l.length < p + m) :
    Calls Try.prog 52 #[.pointer (some ⟨R, 0, none⟩), .int .i64 n] W fun e W' => e = boomE 76 ∧ Ear.Keep (fun b => b = R) w0 W' :=
  (rbytes_short h.rd m hm hn).mono fun e W' he => ⟨he.1, by rw [he.2]; exact h.keep⟩
theorem bytesN_int {n : Int} (h1 : 1 ≤ n) : ((bytesN n : Nat) : Int) = (n + 7) / 8 := by unfold bytesN; omega
theorem nt_set {w0 W : World} {R B o cap p F : Nat} {l : List Int} {cs : List Value} {n : Int} (h : NtAt w0 W R B o cap p F l cs) (hb : byteOk l) (h1 : 1 ≤ n) (h2 : n ≤ 100) (hc : heardC l n p (bytesN n) = 0) :
    Calls Try.prog 55 #[.pointer (some ⟨R, 0, none⟩), .int .i64 n] W fun e W' => e = .returned (.agg #[.int .u32 (Ear.wd (heardK l p (bytesN n)) 0), .int .u32 (Ear.wd (heardK l p (bytesN n)) 1), .int .u32 (Ear.wd (heardK l p (bytesN n)) 2), .int .u32 (Ear.wd (heardK l p (bytesN n)) 3)]) ∧ NtAt w0 W' R B o cap (p + bytesN n) F l cs :=
  (rset_all h.rd hb h1 h2 (bytesN n) (bytesN_int h1) hc).mono fun e W' he => ⟨(he.1 rfl).1, h.next (he.1 rfl).2.1 (he.1 rfl).2.2⟩
theorem nt_set_no {w0 W : World} {R B o cap p F : Nat} {l : List Int} {cs : List Value} {n : Int} (h : NtAt w0 W R B o cap p F l cs) (hb : byteOk l) (h1 : 1 ≤ n) (h2 : n ≤ 100) (hc : heardC l n p (bytesN n) ≠ 0) :
    Calls Try.prog 55 #[.pointer (some ⟨R, 0, none⟩), .int .i64 n] W fun e W' => e = boomE (heardC l n p (bytesN n)) ∧ Ear.Keep (fun b => b = R) w0 W' :=
  (rset_all h.rd hb h1 h2 (bytesN n) (bytesN_int h1) rfl).mono fun e W' he => ⟨(he.2 hc).1, h.keep.trans (he.2 hc).2⟩
/-- .. and the notices that have been read. -/
structure NoAt (w0 W : World) (R B o cap p F : Nat) (l : List Int) (cs : List Value) (m : Nat) (nb : Option Addr) (nc : Nat) (xs : List Value) : Prop where
  nt : NtAt w0 W R B o cap p F l cs
  own : W.ownsRow (F + 1) 84 3 (.slice nb m nc) m xs
theorem NoAt.set {w0 W : World} {R B o cap p F : Nat} {l : List Int} {cs : List Value} {m nc : Nat} {nb : Option Addr} {xs : List Value} (h : NoAt w0 W R B o cap p F l cs m nb nc xs) (i : Nat) (v : Value) : NoAt w0 (W.setCell ⟨F, i, none⟩ v) R B o cap p F l (cs.set i v) m nb nc xs := ⟨h.nt.set i v, owns_set h.own (by omega)⟩
theorem NoAt.call {w0 W : World} {R B o cap p F : Nat} {l : List Int} {cs : List Value} {W' : World} {m nc : Nat} {nb : Option Addr} {xs : List Value} (h : NoAt w0 W R B o cap p F l cs m nb nc xs) (hb : Below W.heap.size W W') : NoAt w0 W' R B o cap p F l cs m nb nc xs := ⟨h.nt.call hb, owns_below h.own hb⟩
theorem nt_news {w0 W : World} {R B o cap p F : Nat} {l : List Int} {cs : List Value} {n : Int} (h : NtAt w0 W R B o cap p F l cs) (hb : byteOk l) (h2 : n ≤ 100) (hc : newsC l n p = 0) :
    Calls Try.prog 56 #[.pointer (some ⟨R, 0, none⟩), .int .i64 n] W fun e W' => ∃ nb nc, e = .returned (.slice nb (manyK l p) nc) ∧ NoAt w0 W' R B o cap (p + 1 + manyK l p * 5) F l cs (manyK l p) nb nc (ntsV (newsK l (p + 1) (manyK l p))) := by
  refine (rnews_all h.rd hb h2 hc).mono fun e W' he => ?_
  obtain ⟨nb, nc, h3, h4, h5, h6⟩ := he.1 rfl
  exact ⟨nb, nc, h3, h.next h5 h6, owns_base h4 (by have := h.blk.lt; omega)⟩
theorem nt_news_no {w0 W : World} {R B o cap p F : Nat} {l : List Int} {cs : List Value} {n : Int} (h : NtAt w0 W R B o cap p F l cs) (hb : byteOk l) (h2 : n ≤ 100) (hc : newsC l n p ≠ 0) :
    Calls Try.prog 56 #[.pointer (some ⟨R, 0, none⟩), .int .i64 n] W fun e W' => e = boomE (newsC l n p) ∧ Ear.Keep (fun b => b = R) w0 W' :=
  (rnews_all h.rd hb h2 rfl).mono fun e W' he => ⟨(he.2 hc).1, h.keep.trans (he.2 hc).2⟩
theorem no_num {w0 W : World} {R B o cap p F : Nat} {l : List Int} {cs : List Value} {m nc : Nat} {nb : Option Addr} {xs : List Value} {n : Int} (h : NoAt w0 W R B o cap p F l cs m nb nc xs) (hb : byteOk l) (k : Nat) (hm : (k : Int) = n) (h1 : 1 ≤ k) (h5 : k ≤ 5) (hn : ¬ l.length < p + k) :
    Calls Try.prog 54 #[.pointer (some ⟨R, 0, none⟩), .int .i64 n] W fun e W' => e = .returned (.int .i64 (numK l p k)) ∧ NoAt w0 W' R B o cap (p + k) F l cs m nb nc xs :=
  (rnum_ok h.nt.rd hb k hm h1 h5 (by omega)).mono fun e W' he => ⟨he.1, h.nt.next he.2.1 he.2.2, owns_keep h.own he.2.2 (fun k hk e => by have := h.nt.hF; have := h.nt.hR; omega)⟩
theorem no_short {w0 W : World} {R B o cap p F : Nat} {l : List Int} {cs : List Value} {m nc : Nat} {nb : Option Addr} {xs : List Value} {n : Int} (h : NoAt w0 W R B o cap p F l cs m nb nc xs) (k : Nat) (hm : (k : Int) = n) (hn : l.length < p + k) :
    Calls Try.prog 54 #[.pointer (some ⟨R, 0, none⟩), .int .i64 n] W fun e W' => e = boomE 76 ∧ Ear.Keep (fun b => b = R) w0 W' := nt_short h.nt k hm hn
theorem no_need_ok {w0 W : World} {R B o cap p F : Nat} {l : List Int} {cs : List Value} {m nc : Nat} {nb : Option Addr} {xs : List Value} (h : NoAt w0 W R B o cap p F l cs m nb nc xs) (c : Int) : Calls Try.prog 53 #[.bool true, .int .i64 c] W fun e W' => e = .returned (.tuple #[]) ∧ NoAt w0 W' R B o cap p F l cs m nb nc xs :=
  (need_ok c W).mono fun e W' he => ⟨he.1, by rw [he.2]; exact h⟩
theorem no_need_no {w0 W : World} {R B o cap p F : Nat} {l : List Int} {cs : List Value} {m nc : Nat} {nb : Option Addr} {xs : List Value} (h : NoAt w0 W R B o cap p F l cs m nb nc xs) (c : Int) : Calls Try.prog 53 #[.bool false, .int .i64 c] W fun e W' => e = boomE c ∧ Ear.Keep (fun b => b = R) w0 W' := nt_need_no h.nt c
theorem no_sum {w0 W : World} {R B o cap p F : Nat} {l : List Int} {cs : List Value} {m nc : Nat} {nb : Option Addr} {xs : List Value} {v : Int} {q : Nat} (h : NoAt w0 W R B o cap p F l cs m nb nc xs) (hb : byteOk l) (hl : l.length ≤ 5000) (hv : sumV (l.take q) = v) (hq : q ≤ l.length) (cp : Nat) :
    Calls Try.prog 16 #[.slice (some ⟨B, o, none⟩) q cp] W fun e W' => e = .returned (.int .i64 v) ∧ Below W.heap.size W W' :=
  Sum_m (by rw [List.length_take]; omega) hv (fun x hx => hb x (List.mem_of_mem_take hx)) (by omega) (lies_take h.nt.rd.lies q)

end Go.Proofs.Ytklfkfnckdeifaa
