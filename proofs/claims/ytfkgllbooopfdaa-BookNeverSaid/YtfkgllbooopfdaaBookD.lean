/-
  Books in memory, side by side.
-/
import Derived.Test.YtfkgllbooopfdaaBookC
namespace Go.Proofs.Ytfkgllbooopfdaa
set_option linter.unusedSimpArgs false
set_option linter.unusedVariables false
open Go.RowKit
/-- Where a book lies. -/
structure BkAt (W : World) (B lo g cap : Nat) (L : List Nt) : Prop where
  blk : Ear.Blk W B 68 [.slice (some ⟨g, 0, none⟩) L.length cap]
  own : W.ownsRow lo 32 3 (.slice (some ⟨g, 0, none⟩) L.length cap) L.length (ntsV L)
theorem BkAt.below {W W' : World} {B lo g cap : Nat} {L : List Nt} (h : BkAt W B lo g cap L) (hb : Below W.heap.size W W') : BkAt W' B lo g cap L :=
  ⟨h.blk.below hb h.blk.lt, owns_below h.own hb⟩
theorem BkAt.g_lt {W : World} {B lo g cap : Nat} {L : List Nt} (h : BkAt W B lo g cap L) : lo ≤ g ∧ g < W.heap.size := h.own.lt g rfl
theorem BkAt.ne {W : World} {B lo g cap : Nat} {L : List Nt} {B' lo' g' cap' : Nat} {L' : List Nt} (h : BkAt W B lo g cap L) (h' : BkAt W B' lo' g' cap' L') : B ≠ g' := fun e => by
  have := own_type_ne h'.own h.blk (by decide)
  exact this (by rw [e]; rfl)
theorem owns_keepB {S : Nat → Prop} {w w' : World} {b e s n : Nat} {v : Value} {xs : List Value} (h : w.ownsRow b e s v n xs) (hk : Ear.Keep S w w') (hn : ∀ k, v.ownBlock = some k → ¬ S k) : w'.ownsRow b e s v n xs := by
  obtain ⟨hl, h | ⟨g, cap', cur, hv, hb1, hc, hr⟩⟩ := h
  · exact ⟨hl, .inl h⟩
  · exact ⟨hl, .inr ⟨g, cap', cur, hv, hb1, (hk.block g (Array.getElem?_eq_some_iff.1 hc).1 (hn g (by rw [hv]; rfl))).trans hc, hr⟩⟩
structure Bk where
  B : Nat
  g : Nat
  cap : Nat
  L : List Nt
/-- Books that share nothing. -/
structure Books (w0 W : World) (bs : List Bk) : Prop where
  at_ : ∀ (i : Nat) (b : Bk), bs[i]? = some b → BkAt W b.B w0.heap.size b.g b.cap b.L ∧ w0.heap.size ≤ b.B ∧ BookOk b.L
  apart : ∀ (i j : Nat) (a b : Bk), i ≠ j → bs[i]? = some a → bs[j]? = some b → a.g ≠ b.g
  below : Below w0.heap.size w0 W
theorem Books.call {w0 W W' : World} {bs : List Bk} (h : Books w0 W bs) (hb : Below W.heap.size W W') : Books w0 W' bs :=
  ⟨fun i b hi => ⟨(h.at_ i b hi).1.below hb, (h.at_ i b hi).2⟩, h.apart, h.below.trans (hb.mono h.below.size)⟩
theorem Books.nil {w0 W : World} (h : Below w0.heap.size w0 W) : Books w0 W [] := ⟨fun i b hi => by simp at hi, fun i j a b _ hi => by simp at hi, h⟩
theorem Books.turn {w0 W W' : World} {bs : List Bk} {i : Nat} {b : Bk} {L' : List Nt} (h : Books w0 W bs) (hi : bs[i]? = some b) (hk : Ear.Keep (fun k => k = b.g) W W') (hb : BkAt W' b.B w0.heap.size b.g b.cap L') (hL : BookOk L') : Books w0 W' (bs.set i { b with L := L' }) := by
  obtain ⟨a1, a2, a3⟩ := h.at_ i b hi
  have hil := (List.getElem?_eq_some_iff.1 hi).1
  refine ⟨?_, ?_, Ear.Keep.below h.below hk h.below.size (fun k hk => by rw [hk]; exact a1.g_lt.1)⟩
  · intro j c hj
    by_cases hij : i = j
    · subst hij
      rw [List.getElem?_set_self hil] at hj
      simp only [Option.some.injEq] at hj
      subst hj
      exact ⟨hb, a2, hL⟩
    · rw [List.getElem?_set_ne hij] at hj
      obtain ⟨c1, c2, c3⟩ := h.at_ j c hj
      exact ⟨⟨c1.blk.keep hk (c1.ne a1), owns_keepB c1.own hk (fun k hk' e => h.apart i j b c hij hi hj (by
        simp only [Value.ownBlock, Option.some.injEq] at hk'
        rw [← e, ← hk']))⟩, c2, c3⟩
  · intro j k c d hjk hj hk'
    have key : ∀ (j : Nat) (c : Bk), (bs.set i { b with L := L' })[j]? = some c → ∃ c', bs[j]? = some c' ∧ c'.g = c.g := by
      intro j c hj
      by_cases hij : i = j
      · subst hij
        rw [List.getElem?_set_self hil] at hj
        simp only [Option.some.injEq] at hj
        subst hj
        exact ⟨b, hi, rfl⟩
      · rw [List.getElem?_set_ne hij] at hj
        exact ⟨c, hj, rfl⟩
    obtain ⟨c', hc', ec⟩ := key j c hj
    obtain ⟨d', hd', ed⟩ := key k d hk'
    rw [← ec, ← ed]
    exact h.apart j k c' d' hjk hc' hd'
theorem Books.push {w0 W W' : World} {bs : List Bk} {B g cap lo : Nat} {L : List Nt} (h : Books w0 W bs) (hb : Below W.heap.size W W') (hn : BkAt W' B lo g cap L) (hB : W.heap.size ≤ B) (hlo : W.heap.size ≤ lo) (hL : BookOk L) : Books w0 W' (bs ++ [⟨B, g, cap, L⟩]) := by
  have h' := h.call hb
  have hg := hn.g_lt
  have hsz := h.below.size
  refine ⟨?_, ?_, h'.below⟩
  · intro i b hi
    by_cases hil : i < bs.length
    · rw [List.getElem?_append_left hil] at hi
      exact h'.at_ i b hi
    · rw [List.getElem?_append_right (by omega)] at hi
      have h0 : i - bs.length = 0 := by
        have := (List.getElem?_eq_some_iff.1 hi).1
        simpa using this
      rw [h0] at hi
      simp only [List.getElem?_cons_zero, Option.some.injEq] at hi
      subst hi
      exact ⟨⟨hn.blk, owns_base hn.own (by omega)⟩, by show _ ≤ B; omega, hL⟩
  · have key : ∀ (i : Nat) (b : Bk), (bs ++ [⟨B, g, cap, L⟩])[i]? = some b → (i < bs.length ∧ bs[i]? = some b ∧ b.g < W.heap.size) ∨ (i = bs.length ∧ b.g = g) := by
      intro i b hi
      by_cases hil : i < bs.length
      · rw [List.getElem?_append_left hil] at hi
        exact .inl ⟨hil, hi, (h.at_ i b hi).1.g_lt.2⟩
      · rw [List.getElem?_append_right (by omega)] at hi
        have h0 : i - bs.length = 0 := by
          have := (List.getElem?_eq_some_iff.1 hi).1
          simpa using this
        rw [h0] at hi
        simp only [List.getElem?_cons_zero, Option.some.injEq] at hi
        subst hi
        exact .inr ⟨by omega, rfl⟩
    intro i j a b hij hi hj
    rcases key i a hi with ⟨i1, i2, i3⟩ | ⟨i1, i2⟩ <;> rcases key j b hj with ⟨j1, j2, j3⟩ | ⟨j1, j2⟩
    · exact h.apart i j a b hij i2 j2
    · omega
    · omega
    · omega
end Go.Proofs.Ytfkgllbooopfdaa
