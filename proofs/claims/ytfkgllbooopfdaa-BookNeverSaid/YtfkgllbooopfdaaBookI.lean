/-
  What Merge of a book comes to.
-/
import Derived.Test.YtfkgllbooopfdaaBookH
import Derived.Laws.EntriesVeiled
namespace Go.Proofs.Ytfkgllbooopfdaa
set_option linter.unusedSimpArgs false
set_option linter.unusedVariables false
open Go.RowKit
attribute [local irreducible] Ear.wd Ear.one Ear.clean withV withE hasV
theorem Books.beside {w0 W W' : World} {bs : List Bk} {B T : Nat} {cs : List Value} (h : Books w0 W bs) (h2 : Ear.Blk W B T cs) (ht1 : T ≠ 68) (ht2 : T ≠ 32) (hB : w0.heap.size ≤ B) (hk : Ear.Keep (fun k => k = B) W W') : Books w0 W' bs := by
  refine ⟨fun i b hi => ?_, h.apart, Ear.Keep.below h.below hk h.below.size (fun k hk => by rw [hk]; exact hB)⟩
  obtain ⟨a1, a2, a3⟩ := h.at_ i b hi
  refine ⟨⟨a1.blk.keep hk (fun e => Ear.Blk.type_ne h2 a1.blk ht1 e.symm), owns_keepB a1.own hk ?_⟩, a2, a3⟩
  rintro k hk' rfl
  exact own_type_ne a1.own h2 ht2 hk'.symm
def chg1 (L : List Nt) (s : BitVec 128) (x : Nt) : BitVec 128 := if takeB L x = true then withV s x.of_ else s
theorem chg_snoc (L l : List Nt) (x : Nt) (s : BitVec 128) : chg L (l ++ [x]) s = chg1 (takesN L l) (chg L l s) x := by
  induction l generalizing L s with
  | nil => rfl
  | cons a l ih =>
    rw [List.cons_append]
    simp only [chg]
    rw [ih]
    rfl
set_option maxRecDepth 100000 in
set_option maxHeartbeats 4000000 in
theorem Merge1_calls {w0 w : World} {bs : List Bk} {i : Nat} {b : Bk} (x : Nt) (s : BitVec 128) (b1 b2 : Nat) (h : Books w0 w bs) (hi : bs[i]? = some b) (h1 : Ear.Blk w b1 23 [.pointer (some ⟨b.B, 0, none⟩)]) (h2 : Ear.Blk w b2 35 [.int .u32 (Ear.wd (s) 0), .int .u32 (Ear.wd (s) 1), .int .u32 (Ear.wd (s) 2), .int .u32 (Ear.wd (s) 3)]) (hb2 : w0.heap.size ≤ b2) :
    Calls Try.prog 33 #[.agg #[.int .i64 (x).of_, .int .i64 (x).tag, .int .i64 (x).kind], .pointer (some ⟨b1, 0, none⟩), .pointer (some ⟨b2, 0, none⟩)] w fun e w' =>
      (∃ v, e = .returned v) ∧ Books w0 w' (bs.set i { b with L := takeN b.L x }) ∧ Ear.Blk w' b2 35 [.int .u32 (Ear.wd (chg1 b.L s x) 0), .int .u32 (Ear.wd (chg1 b.L s x) 1), .int .u32 (Ear.wd (chg1 b.L s x) 2), .int .u32 (Ear.wd (chg1 b.L s x) 3)] ∧ Ear.Keep (fun k => k = b.g ∨ k = b2) w w' := by
  obtain ⟨a1, -, -⟩ := h.at_ i b hi
  have hg := a1.g_lt.2
  have hb1g : b1 ≠ b.g := fun e => own_type_ne a1.own h1 (by decide) (by rw [e]; rfl)
  have hb2g : b2 ≠ b.g := fun e => own_type_ne a1.own h2 (by decide) (by rw [e]; rfl)
  have hb12 : b1 ≠ b2 := Ear.Blk.type_ne h1 h2 (by decide)
  obtain ⟨t, ht⟩ : ∃ t, takeB b.L x = t := ⟨_, rfl⟩
  obtain ⟨c, hc⟩ : ∃ c, chg1 b.L s x = c := ⟨_, rfl⟩
  have HC := Lib.hid hc
  obtain ⟨er, her⟩ : ∃ er, errN b.L.length x = er := ⟨_, rfl⟩
  have HER := Lib.hid her
  have HT := Lib.hid ht
  have H := Lib.hid h
  have HI := Lib.hid hi
  have h1_c := h1.cell
  have h1_l := h1.lt
  have h2_l := h2.lt
  rw [hc]
  clear ht a1 h hi hc her
  go_enter Try.func33, Try.ntmps33
  go_wp2_with fail
  refine Calls.mono (Take_bk x (H.out.call (by (repeat' (first | (with_reducible exact Below.refl _ _) | (with_reducible assumption) | (show Below 0 _ _; with_reducible refine Below.mono (by assumption) (Nat.zero_le _)) | (with_reducible refine below_setRow ?_ ?_ _) | (with_reducible refine Below.alloc ?_ ?_ _) | (with_reducible refine Below.drew ?_) | (with_reducible refine Below.setCell ?_ ?_ _) | (with_reducible refine Below.frame ?_ _) | (with_reducible exact Nat.le_refl _) | omega | (simp only [World.size_alloc, World.size_setCell, World.size_drew, setRow_size]; omega) | (simp; omega) | (simp; done))))) HI.out) ?_
  rintro e w1 ⟨rfl, hT, hk⟩
  have hx : Ear.Blk w1 w.heap.size 32 [.int .i64 x.of_, .int .i64 x.tag, .int .i64 x.kind] := Ear.Blk.keep (by (repeat' (first | (show Ear.Blk _ _ _ _; with_reducible assumption) | (with_reducible exact Ear.Blk.new _ _ _) | (with_reducible refine Ear.Blk.new' ?_; (simp only [World.size_alloc, World.size_setCell, World.size_drew, setRow_size]; done)) | (with_reducible apply Ear.Blk.alloc) | (with_reducible apply Ear.Blk.drew) | (with_reducible apply Ear.Blk.setC) | (with_reducible apply Ear.Blk.setC' (e := by omega)) | (with_reducible apply Ear.Blk.rowC (e := by first | rfl | omega)) | (with_reducible apply Ear.Blk.otherRow) | (with_reducible apply Ear.Blk.other) | (show _ ≠ _; (try simp only [World.size_alloc, World.size_setCell, World.size_drew, setRow_size]); omega) | (show _ < _; (try simp only [World.size_alloc, World.size_setCell, World.size_drew, setRow_size]); omega)))) hk (by omega)
  have h21 : Ear.Blk w1 b2 35 [.int .u32 (Ear.wd (s) 0), .int .u32 (Ear.wd (s) 1), .int .u32 (Ear.wd (s) 2), .int .u32 (Ear.wd (s) 3)] := Ear.Blk.keep (by (repeat' (first | (show Ear.Blk _ _ _ _; with_reducible assumption) | (with_reducible exact Ear.Blk.new _ _ _) | (with_reducible refine Ear.Blk.new' ?_; (simp only [World.size_alloc, World.size_setCell, World.size_drew, setRow_size]; done)) | (with_reducible apply Ear.Blk.alloc) | (with_reducible apply Ear.Blk.drew) | (with_reducible apply Ear.Blk.setC) | (with_reducible apply Ear.Blk.setC' (e := by omega)) | (with_reducible apply Ear.Blk.rowC (e := by first | rfl | omega)) | (with_reducible apply Ear.Blk.otherRow) | (with_reducible apply Ear.Blk.other) | (show _ ≠ _; (try simp only [World.size_alloc, World.size_setCell, World.size_drew, setRow_size]); omega) | (show _ < _; (try simp only [World.size_alloc, World.size_setCell, World.size_drew, setRow_size]); omega)))) hk hb2g
  have hk1 : Ear.Keep (fun k => k = b.g ∨ k = b2) w w1 := (Ear.Keep.of_below (show Below w.heap.size w _ from by (repeat' (first | (with_reducible exact Below.refl _ _) | (with_reducible assumption) | (show Below 0 _ _; with_reducible refine Below.mono (by assumption) (Nat.zero_le _)) | (with_reducible refine below_setRow ?_ ?_ _) | (with_reducible refine Below.alloc ?_ ?_ _) | (with_reducible refine Below.drew ?_) | (with_reducible refine Below.setCell ?_ ?_ _) | (with_reducible refine Below.frame ?_ _) | (with_reducible exact Nat.le_refl _) | omega | (simp only [World.size_alloc, World.size_setCell, World.size_drew, setRow_size]; omega) | (simp; omega) | (simp; done))))).trans (hk.mono (fun _ _ e => .inl e))
  have HB1 := Lib.hid hT
  have hx_c := hx.cell
  have hx_l := hx.lt
  have h21_c := h21.cell
  have h21_l := h21.lt
  rw [HT.out, HER.out]
  clear hT hk h1_c h1 h2
  cases t with
  | false =>
    go_wp2
    go_end0
    exact ⟨⟨_, rfl⟩, HB1.out, by rw [← HC.out]; unfold chg1; rw [HT.out, if_neg (by decide)]; exact h21, hk1⟩
  | true =>
    go_wp2_with (go_at_call 34; (with_reducible refine Calls.mono (With_val s x.of_ _) ?_); rintro e w2 ⟨rfl, hb2'⟩; have h22 := h21.below hb2' h21_l; have HB2 := Lib.hid (HB1.out.call hb2'); have hk2 := hk1.call hb2'; have h22_c := h22.cell; have h22_l := h22.lt; have h22_f := h22.frozen; clear hb2')
    go_end0
    have hK2 : Ear.Keep (fun k => k = b2) w2 w2 := Ear.Keep.refl _ _
    have hblk := (((h22.setC (i := 0) (v := .int .u32 (Ear.wd (withV s x.of_) 0))).setC (i := 1) (v := .int .u32 (Ear.wd (withV s x.of_) 1))).setC (i := 2) (v := .int .u32 (Ear.wd (withV s x.of_) 2))).setC (i := 3) (v := .int .u32 (Ear.wd (withV s x.of_) 3))
    exact ⟨⟨_, rfl⟩, HB2.out.beside h22 (by decide) (by decide) hb2 ((((hK2.setCell (.inl rfl) _).setCell (.inl rfl) _).setCell (.inl rfl) _).setCell (.inl rfl) _), by rw [← HC.out]; unfold chg1; rw [HT.out, if_pos rfl]; exact hblk, (((hk2.setCell (.inl (.inr rfl)) _).setCell (.inl (.inr rfl)) _).setCell (.inl (.inr rfl)) _).setCell (.inl (.inr rfl)) _⟩
end Go.Proofs.Ytfkgllbooopfdaa
