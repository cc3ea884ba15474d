/-
  What Merge of a book comes to, as data.
  Books in memory, side by side.
  Orders of notices, as data.
  What is taken twice is taken once, as data.
-/
import Derived.Test.YtfnolmlmmimehaaBookB
import Derived.Test.YtfnolmlmmimehaaVal
section
namespace Go.Proofs.Ytfnolmlmmimehaa
set_option linter.unusedSimpArgs false
set_option linter.unusedVariables false
theorem hasV_put (s : BitVec 128) (x y : Int) (hx : 0 ≤ x ∧ x < 100) : hasV (withV s x) y = (hasV s y || decide (x = y)) := by
  unfold hasV withV
  rw [if_pos hx]
  by_cases hy : 0 ≤ y ∧ y < 100
  · rw [if_pos hy, if_pos hy, BitVec.getLsbD_or, Ear.clean_bit, Ear.one_bit]
    obtain ⟨i, rfl⟩ := Int.eq_ofNat_of_zero_le hx.1
    obtain ⟨j, rfl⟩ := Int.eq_ofNat_of_zero_le hy.1
    have hj : j < 100 := by omega
    have hj' : j < 128 := by omega
    by_cases hij : i = j
    · subst hij; simp [hj, hj']
    · have : ¬ ((i : Int) = (j : Int)) := by omega
      have h2 : ¬ (j = i) := fun e => hij e.symm
      simp [hj, hj', this, h2]
  · rw [if_neg hy, if_neg hy]
    have : x ≠ y := by omega
    simp [this]
/-- The nodes of which a book has another notice. -/
def chg : List Nt → List Nt → BitVec 128 → BitVec 128
  | _, [], s => s
  | L, x :: l, s => chg (takeN L x) l (if takeB L x = true then withV s x.of_ else s)
theorem takeB_get {L : List Nt} (hL : BookOk L) (x : Nt) (i : Nat) (h : i < L.length) : (takeB L x && decide (x.of_ = (i : Int))) = decide (rankN L[i] < rankN ((takeN L x)[i]'(by rw [takeN_len]; exact h))) := by
  rw [takeN_get hL x i h]
  by_cases hc : validN L.length x = true ∧ x.of_ = (i : Int) ∧ rankN L[i] < rankN x
  · rw [if_pos hc]
    obtain ⟨hv, hi, hb⟩ := hc
    obtain ⟨ho, hr⟩ := hL.each i h
    have hin : x.of_.toNat = i := by omega
    have ht : takeB L x = true := by
      unfold takeB
      rw [hv, hin, List.getElem?_eq_getElem h]
      unfold beatsN
      simp [ho, hi, hr, hb]
    rw [ht, decide_eq_true hi, decide_eq_true hb]
    rfl
  · rw [if_neg hc, decide_eq_false (by omega : ¬ rankN L[i] < rankN L[i])]
    by_cases hi : x.of_ = (i : Int)
    · have ht : takeB L x = false := by
        cases hq : takeB L x with
        | false => rfl
        | true =>
          exfalso
          unfold takeB at hq
          simp only [Bool.and_eq_true] at hq
          obtain ⟨hv, hb⟩ := hq
          have := (of_valid hv).1
          have hin : x.of_.toNat = i := by omega
          rw [hin, List.getElem?_eq_getElem h] at hb
          unfold beatsN at hb
          simp only [Bool.and_eq_true, decide_eq_true_eq] at hb
          exact hc ⟨hv, hi, hb.2⟩
      rw [ht]; rfl
    · rw [decide_eq_false hi, Bool.and_false]
theorem takeB_of {L : List Nt} {x : Nt} (h : takeB L x = true) : 0 ≤ x.of_ ∧ x.of_ < L.length := by
  unfold takeB at h
  simp only [Bool.and_eq_true] at h
  have := of_valid h.1
  exact ⟨this.1, this.2.1⟩
theorem rank_mono {L : List Nt} (hL : BookOk L) (l : List Nt) (i : Nat) (h : i < L.length) : rankN L[i] ≤ rankN ((takesN L l)[i]'(by rw [takesN_len]; exact h)) := (takesN_char hL l i h).2.1
theorem hasV_chg {L : List Nt} (hL : BookOk L) (l : List Nt) (s : BitVec 128) (i : Nat) (h : i < L.length) : hasV (chg L l s) (i : Int) = (hasV s (i : Int) || decide (rankN L[i] < rankN ((takesN L l)[i]'(by rw [takesN_len]; exact h)))) := by
  induction l generalizing L s with
  | nil =>
    have : ¬ rankN L[i] < rankN L[i] := by omega
    simp [chg, takesN]
  | cons a l ih =>
    have h' : i < (takeN L a).length := by rw [takeN_len]; exact h
    have h1 := takeB_get hL a i h
    have hm := rank_mono (takeN_ok hL a) l i h'
    have hm0 : rankN L[i] ≤ rankN (takeN L a)[i] := by
      rw [takeN_get hL a i h]
      split
      · rename_i hc; omega
      · omega
    simp only [chg, show takesN L (a :: l) = takesN (takeN L a) l from rfl]
    rw [ih (takeN_ok hL a) _ h']
    have h'' : i < (takesN (takeN L a) l).length := by rw [takesN_len]; exact h'
    have key : (decide (rankN L[i] < rankN (takeN L a)[i]) || decide (rankN (takeN L a)[i] < rankN (takesN (takeN L a) l)[i])) = decide (rankN L[i] < rankN (takesN (takeN L a) l)[i]) := by
      rw [Bool.eq_iff_iff]
      simp only [Bool.or_eq_true, decide_eq_true_eq]
      omega
    rw [← key, ← h1]
    by_cases ht : takeB L a = true
    · have hb := takeB_of ht
      have := hL.most
      rw [if_pos ht, hasV_put _ _ _ ⟨hb.1, by omega⟩, ht, Bool.true_and, Bool.or_assoc]
    · have ht' : takeB L a = false := by simpa using ht
      rw [if_neg ht, ht', Bool.false_and, Bool.false_or]
def mergeOk (n : Nat) (l : List Nt) : Bool := l.all (validN n)
def mergeN (L l : List Nt) : List Nt := if mergeOk L.length l = true then takesN L l else L
theorem merge_one (L : List Nt) (x : Nt) : mergeN L [x] = takeN L x := by
  unfold mergeN mergeOk
  by_cases h : validN L.length x = true
  · simp only [List.all_cons, List.all_nil, Bool.and_true, h, if_true]; rfl
  · have : takeN L x = L := by unfold takeN takeB; rw [if_neg (by simp [h])]
    simp [h, this]
def newErr (n self tag : Int) : Int := if n < 1 ∨ 100 < n then 1 else if self < 0 ∨ n ≤ self then 30 else if validN n ⟨self, tag, 1⟩ = false then 50 else 0
def freshL (n : Nat) : List Nt := (List.range n).map fun i : Nat => (⟨(i : Int), 0, 1⟩ : Nt)
def newB (n self tag : Int) : List Nt := (freshL n.toNat).set self.toNat ⟨self, tag, 1⟩
theorem freshL_len (n : Nat) : (freshL n).length = n := by simp [freshL]
theorem newErr_ok {n self tag : Int} (h : newErr n self tag = 0) : 1 ≤ n ∧ n ≤ 100 ∧ 0 ≤ self ∧ self < n ∧ validN n ⟨self, tag, 1⟩ = true := by
  unfold newErr at h
  split at h
  · simp at h
  · rename_i h1
    split at h
    · simp at h
    · rename_i h2
      split at h
      · simp at h
      · rename_i h3
        exact ⟨by omega, by omega, by omega, by omega, by simpa using h3⟩
theorem newB_len {n self tag : Int} (h : newErr n self tag = 0) : ((newB n self tag).length : Int) = n := by
  have := newErr_ok h
  unfold newB
  rw [List.length_set, freshL_len]
  omega
theorem fresh_set (m k : Nat) (x : Nt) (hk : x.of_ = (k : Int)) (hr : 0 ≤ rankN x) : ∀ i (h : i < ((freshL m).set k x).length), ((freshL m).set k x)[i].of_ = (i : Int) ∧ 0 ≤ rankN ((freshL m).set k x)[i] := by
  intro i hi
  by_cases his : k = i
  · subst his
    rw [List.getElem_set_self]
    exact ⟨hk, hr⟩
  · rw [List.getElem_set_ne his]
    unfold freshL
    rw [List.getElem_map, List.getElem_range]
    exact ⟨rfl, by simp [rankN, tagOk]⟩
theorem newB_ok {n self tag : Int} (h : newErr n self tag = 0) : BookOk (newB n self tag) := by
  obtain ⟨h1, h2, h3, h4, h5⟩ := newErr_ok h
  have hl := newB_len h
  exact ⟨by omega, by omega, fresh_set n.toNat self.toNat ⟨self, tag, 1⟩ (by show self = _; omega) (of_valid h5).2.2⟩
end Go.Proofs.Ytfnolmlmmimehaa
end
section
namespace Go.Proofs.Ytfnolmlmmimehaa
set_option linter.unusedSimpArgs false
set_option linter.unusedVariables false
open Go.RowKit
/-- Where a book lies. -/
structure BkAt (W : World) (B lo g cap : Nat) (L : List Nt) : Prop where
  blk : Ear.Blk W B 96 [.slice (some ⟨g, 0, none⟩) L.length cap]
  own : W.ownsRow lo 65 3 (.slice (some ⟨g, 0, none⟩) L.length cap) L.length (ntsV L)
theorem BkAt.below {W W' : World} {B lo g cap : Nat} {L : List Nt} (h : BkAt W B lo g cap L) (hb : Below W.heap.size W W') : BkAt W' B lo g cap L :=
  ⟨h.blk.below hb h.blk.lt, owns_below h.own hb⟩
theorem BkAt.g_lt {W : World} {B lo g cap : Nat} {L : List Nt} (h : BkAt W B lo g cap L) : lo ≤ g ∧ g < W.heap.size := h.own.lt g rfl
theorem BkAt.ne {W : World} {B lo g cap : Nat} {L : List Nt} {B' lo' g' cap' : Nat} {L' : List Nt} (h : BkAt W B lo g cap L) (h' : BkAt W B' lo' g' cap' L') : B ≠ g' := fun e => by
  have := own_type_ne h'.own h.blk (by decide)
  exact this (by rw [e]; rfl)
theorem owns_keepB {S : Nat → Prop} {w w' : World} {b e s n : Nat} {v : Value} {xs : List Value} (h : w.ownsRow b e s v n xs) (hk : Ear.Keep S w w') (hn : ∀ k, v.ownBlock = some k → ¬ S k) : w'.ownsRow b e s v n xs := by
  obtain ⟨hl, h | ⟨g, cap', cur, hv, hb1, hc, hr⟩⟩ := h
  · exact ⟨hl, .inl h⟩
  · exact ⟨hl, .inr ⟨g, cap', cur, hv, hb1, (hk.block g (Array.getElem?_eq_some_iff.1 hc).1 (hn g (by rw [hv]; rfl))).trans hc, hr⟩⟩
structure Bk where
  B : Nat
  g : Nat
  cap : Nat
  L : List Nt
/-- Books that share nothing. -/
structure Books (w0 W : World) (bs : List Bk) : Prop where
  at_ : ∀ (i : Nat) (b : Bk), bs[i]? = some b → BkAt W b.B w0.heap.size b.g b.cap b.L ∧ w0.heap.size ≤ b.B ∧ BookOk b.L
  apart : ∀ (i j : Nat) (a b : Bk), i ≠ j → bs[i]? = some a → bs[j]? = some b → a.g ≠ b.g
  below : Below w0.heap.size w0 W
theorem Books.call {w0 W W' : World} {bs : List Bk} (h : Books w0 W bs) (hb : Below W.heap.size W W') : Books w0 W' bs :=
  ⟨fun i b hi => ⟨(h.at_ i b hi).1.below hb, (h.at_ i b hi).2⟩, h.apart, h.below.trans (hb.mono h.below.size)⟩
theorem Books.nil {w0 W : World} (h : Below w0.heap.size w0 W) : Books w0 W [] := ⟨fun i b hi => by simp at hi, fun i j a b _ hi => by simp at hi, h⟩
theorem Books.turn {w0 W W' : World} {bs : List Bk} {i : Nat} {b : Bk} {L' : List Nt} (h : Books w0 W bs) (hi : bs[i]? = some b) (hk : Ear.Keep (fun k => k = b.g) W W') (hb : BkAt W' b.B w0.heap.size b.g b.cap L') (hL : BookOk L') : Books w0 W' (bs.set i { b with L := L' }) := by
  obtain ⟨a1, a2, a3⟩ := h.at_ i b hi
  have hil := (List.getElem?_eq_some_iff.1 hi).1
  refine ⟨?_, ?_, Ear.Keep.below h.below hk h.below.size (fun k hk => by rw [hk]; exact a1.g_lt.1)⟩
  · intro j c hj
    by_cases hij : i = j
    · subst hij
      rw [List.getElem?_set_self hil] at hj
      simp only [Option.some.injEq] at hj
      subst hj
      exact ⟨hb, a2, hL⟩
    · rw [List.getElem?_set_ne hij] at hj
      obtain ⟨c1, c2, c3⟩ := h.at_ j c hj
      exact ⟨⟨c1.blk.keep hk (c1.ne a1), owns_keepB c1.own hk (fun k hk' e => h.apart i j b c hij hi hj (by
        simp only [Value.ownBlock, Option.some.injEq] at hk'
        rw [← e, ← hk']))⟩, c2, c3⟩
  · intro j k c d hjk hj hk'
    have key : ∀ (j : Nat) (c : Bk), (bs.set i { b with L := L' })[j]? = some c → ∃ c', bs[j]? = some c' ∧ c'.g = c.g := by
      intro j c hj
      by_cases hij : i = j
      · subst hij
        rw [List.getElem?_set_self hil] at hj
        simp only [Option.some.injEq] at hj
        subst hj
        exact ⟨b, hi, rfl⟩
      · rw [List.getElem?_set_ne hij] at hj
        exact ⟨c, hj, rfl⟩
    obtain ⟨c', hc', ec⟩ := key j c hj
    obtain ⟨d', hd', ed⟩ := key k d hk'
    rw [← ec, ← ed]
    exact h.apart j k c' d' hjk hc' hd'
theorem Books.push {w0 W W' : World} {bs : List Bk} {B g cap lo : Nat} {L : List Nt} (h : Books w0 W bs) (hb : Below W.heap.size W W') (hn : BkAt W' B lo g cap L) (hB : W.heap.size ≤ B) (hlo : W.heap.size ≤ lo) (hL : BookOk L) : Books w0 W' (bs ++ [⟨B, g, cap, L⟩]) := by
  have h' := h.call hb
  have hg := hn.g_lt
  have hsz := h.below.size
  refine ⟨?_, ?_, h'.below⟩
  · intro i b hi
    by_cases hil : i < bs.length
    · rw [List.getElem?_append_left hil] at hi
      exact h'.at_ i b hi
    · rw [List.getElem?_append_right (by omega)] at hi
      have h0 : i - bs.length = 0 := by
        have := (List.getElem?_eq_some_iff.1 hi).1
        simpa using this
      rw [h0] at hi
      simp only [List.getElem?_cons_zero, Option.some.injEq] at hi
      subst hi
      exact ⟨⟨hn.blk, owns_base hn.own (by omega)⟩, by show _ ≤ B; omega, hL⟩
  · have key : ∀ (i : Nat) (b : Bk), (bs ++ [⟨B, g, cap, L⟩])[i]? = some b → (i < bs.length ∧ bs[i]? = some b ∧ b.g < W.heap.size) ∨ (i = bs.length ∧ b.g = g) := by
      intro i b hi
      by_cases hil : i < bs.length
      · rw [List.getElem?_append_left hil] at hi
        exact .inl ⟨hil, hi, (h.at_ i b hi).1.g_lt.2⟩
      · rw [List.getElem?_append_right (by omega)] at hi
        have h0 : i - bs.length = 0 := by
          have := (List.getElem?_eq_some_iff.1 hi).1
          simpa using this
        rw [h0] at hi
        simp only [List.getElem?_cons_zero, Option.some.injEq] at hi
        subst hi
        exact .inr ⟨by omega, rfl⟩
    intro i j a b hij hi hj
    rcases key i a hi with ⟨i1, i2, i3⟩ | ⟨i1, i2⟩ <;> rcases key j b hj with ⟨j1, j2, j3⟩ | ⟨j1, j2⟩
    · exact h.apart i j a b hij i2 j2
    · omega
    · omega
    · omega
end Go.Proofs.Ytfnolmlmmimehaa
end
section
namespace Go.Proofs.Ytfnolmlmmimehaa
set_option linter.unusedSimpArgs false
set_option linter.unusedVariables false
theorem takesN_snoc (L l : List Nt) (x : Nt) : takesN L (l ++ [x]) = takeN (takesN L l) x := by simp [takesN]
theorem takesN_succ (L l : List Nt) (k : Nat) (h : k < l.length) : takesN L (l.take (k + 1)) = takeN (takesN L (l.take k)) l[k] := by
  rw [List.take_succ_eq_append_getElem h, takesN_snoc]
def rotL (l : List Nt) (k : Nat) : List Nt := l.drop k ++ l.take k
theorem rotL_len (l : List Nt) (k : Nat) (h : k ≤ l.length) : (rotL l k).length = l.length := by
  unfold rotL; rw [List.length_append, List.length_drop, List.length_take]; omega
theorem rotL_mem (l : List Nt) (k : Nat) (x : Nt) : x ∈ l ↔ x ∈ rotL l k := by
  unfold rotL
  rw [List.mem_append, or_comm, ← List.mem_append, List.take_append_drop]
theorem rotL_get (l : List Nt) (k i : Nat) (hk : k < l.length) (hi : i < l.length) : (rotL l k)[i]'(by rw [rotL_len l k (by omega)]; exact hi) = l[(i + k) % l.length]'(Nat.mod_lt _ (by omega)) := by
  unfold rotL
  by_cases h : i < l.length - k
  · rw [List.getElem_append_left (by rw [List.length_drop]; exact h), List.getElem_drop]
    congr 1
    rw [Nat.mod_eq_of_lt (by omega)]; omega
  · rw [List.getElem_append_right (by rw [List.length_drop]; omega), List.getElem_take]
    congr 1
    rw [List.length_drop, show i + k = (i - (l.length - k)) + l.length by omega, Nat.add_mod_right, Nat.mod_eq_of_lt (by omega)]
theorem rev_take (l : List Nt) (j : Nat) (h : j < l.length) : l.reverse.take (j + 1) = l.reverse.take j ++ [l[l.length - 1 - j]'(by omega)] := by
  rw [List.take_succ_eq_append_getElem (by rw [List.length_reverse]; exact h), List.getElem_reverse]
theorem order_same {L : List Nt} (hL : BookOk L) (l : List Nt) (k : Nat) : takesN L l = takesN L (rotL l k) ∧ takesN L l = takesN L l.reverse :=
  ⟨takesN_same hL (rotL_mem l k), takesN_same hL (fun x => List.mem_reverse.symm)⟩
end Go.Proofs.Ytfnolmlmmimehaa
end
section
namespace Go.Proofs.Ytfnolmlmmimehaa
set_option linter.unusedSimpArgs false
set_option linter.unusedVariables false
theorem takeN_no {L : List Nt} {x : Nt} (h : takeB L x = false) : takeN L x = L := by unfold takeN; rw [if_neg (by rw [h]; decide)]
theorem take_rank {L : List Nt} {x : Nt} (h : takeB L x = true) : ∃ (i : Nat) (hi : i < L.length), x.of_ = (i : Int) ∧ validN L.length x = true ∧ rankN L[i] < rankN x := by
  have hb := takeB_of h
  unfold takeB at h
  simp only [Bool.and_eq_true] at h
  obtain ⟨hv, h2⟩ := h
  have hi : x.of_.toNat < L.length := by omega
  rw [List.getElem?_eq_getElem hi] at h2
  unfold beatsN at h2
  simp only [Bool.and_eq_true, decide_eq_true_eq] at h2
  exact ⟨x.of_.toNat, hi, by omega, hv, h2.2⟩
theorem taken {L : List Nt} (hL : BookOk L) (l : List Nt) : ∀ x ∈ l, takeB (takesN L l) x = false := by
  intro x hx
  cases ht : takeB (takesN L l) x with
  | false => rfl
  | true =>
    exfalso
    obtain ⟨i, hi, ho, hv, hr⟩ := take_rank ht
    have hi' : i < L.length := by rw [takesN_len] at hi; exact hi
    rw [takesN_len] at hv
    have := (takesN_char hL l i hi').2.2 x hx hv ho
    omega
theorem own_list {L : List Nt} (hL : BookOk L) : ∀ x ∈ L, takeB L x = false := by
  intro x hx
  cases ht : takeB L x with
  | false => rfl
  | true =>
    exfalso
    obtain ⟨i, hi, ho, -, hr⟩ := take_rank ht
    obtain ⟨j, hj, rfl⟩ := List.getElem_of_mem hx
    have := (hL.each j hj).1
    have hij : i = j := by omega
    subst hij
    omega
theorem no_takes {M : List Nt} : ∀ (m : List Nt), (∀ x ∈ m, takeB M x = false) → takesN M m = M ∧ ∀ s, chg M m s = s
  | [], _ => ⟨rfl, fun _ => rfl⟩
  | a :: m, h => by
    have ha := h a List.mem_cons_self
    have hm := no_takes m (fun x hx => h x (List.mem_cons_of_mem _ hx))
    have hn := takeN_no ha
    refine ⟨?_, fun s => ?_⟩
    · rw [show takesN M (a :: m) = takesN (takeN M a) m from rfl, hn]; exact hm.1
    · simp only [chg, ha, hn]
      exact hm.2 s
theorem own_valid {L : List Nt} (hL : BookOk L) : mergeOk L.length L = true := by
  unfold mergeOk
  rw [List.all_eq_true]
  intro x hx
  obtain ⟨j, hj, rfl⟩ := List.getElem_of_mem hx
  obtain ⟨h1, h2⟩ := hL.each j hj
  exact valid_of hL.pos hL.most (by omega) (by omega) h2
end Go.Proofs.Ytfnolmlmmimehaa
end
