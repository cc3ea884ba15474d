/-
  What a call may turn that writes to blocks of its caller: the blocks of a set alone.
  Notices and books, as data.
  A row of notices in memory, turned in place.
-/
import Derived.Test.YtklfkfnckdeifaaCut
import Derived.WalkKit
import Derived.Maps.AppendAt
import Derived.Test.YtklfkfnckdeifaaLib
section
namespace Go.Proofs.Ytklfkfnckdeifaa
set_option linter.unusedSimpArgs false
set_option linter.unusedVariables false
open Go.RowKit
namespace Ear
/-- Blocks outside S lie as they lay. -/
structure Keep (S : Nat → Prop) (w w' : World) : Prop where
  os : w'.os = w.os
  tape : w'.tape = w.tape
  output : w'.output = w.output
  size : w.heap.size ≤ w'.heap.size
  block : ∀ k, k < w.heap.size → ¬ S k → w'.heap[k]? = w.heap[k]?
theorem Keep.refl (S : Nat → Prop) (w : World) : Keep S w w := ⟨rfl, rfl, rfl, Nat.le_refl _, fun _ _ _ => rfl⟩
theorem Keep.of_below {S : Nat → Prop} {w w' : World} (h : Below w.heap.size w w') : Keep S w w' := ⟨h.os, h.tape, h.output, h.size, fun k hk _ => h.block k hk⟩
theorem Keep.trans {S : Nat → Prop} {a b c : World} (h : Keep S a b) (k : Keep S b c) : Keep S a c :=
  ⟨k.os.trans h.os, k.tape.trans h.tape, k.output.trans h.output, Nat.le_trans h.size k.size, fun i hi hs => (k.block i (Nat.lt_of_lt_of_le hi h.size) hs).trans (h.block i hi hs)⟩
theorem Keep.mono {S S' : Nat → Prop} {w w' : World} (h : Keep S w w') (hs : ∀ k, k < w.heap.size → S k → S' k) : Keep S' w w' := ⟨h.os, h.tape, h.output, h.size, fun k hk hn => h.block k hk (fun h1 => hn (hs k hk h1))⟩
theorem Keep.below {S : Nat → Prop} {n : Nat} {a w w' : World} (hb : Below n a w) (h : Keep S w w') (hn : n ≤ w.heap.size) (hS : ∀ k, S k → n ≤ k) : Below n a w' :=
  hb.trans ⟨h.os, h.tape, h.output, h.size, fun k hk => h.block k (by omega) (fun hs => by have := hS k hs; omega)⟩
theorem Keep.alloc {S : Nat → Prop} {w W : World} (h : Keep S w W) (o : Obj) : Keep S w (W.alloc o) :=
  h.trans (Keep.of_below ((Below.refl _ W).alloc (Nat.le_refl _) o))
theorem Keep.drew {S : Nat → Prop} {w W : World} (h : Keep S w W) : Keep S w W.drew := ⟨h.os, h.tape, h.output, h.size, h.block⟩
theorem Keep.setCell {S : Nat → Prop} {w W : World} (h : Keep S w W) {p : Addr} (hp : S p.block ∨ w.heap.size ≤ p.block) (v : Value) : Keep S w (W.setCell p v) :=
  ⟨h.os, h.tape, h.output, by simpa [World.setCell] using h.size, fun k hk hs => by
    rw [Below.heap_setCell _ _ _ _ (fun e => by subst e; rcases hp with hp | hp; exact hs hp; omega)]; exact h.block k hk hs⟩
theorem Keep.grown {S : Nat → Prop} {w W W' : World} {row : Option Nat} (h : Keep S w W) (hg : W.grownBy W' row) (hr : ∀ k, row = some k → S k ∨ w.heap.size ≤ k) : Keep S w W' :=
  ⟨hg.os.trans h.os, hg.tape.trans h.tape, hg.output.trans h.output, Nat.le_trans h.size hg.size, fun k hk hs =>
    (hg.block k (Nat.lt_of_lt_of_le hk h.size) (fun e => by rcases hr k e.symm with h1 | h1; exact hs h1; omega)).trans (h.block k hk hs)⟩
theorem Keep.call {S : Nat → Prop} {w W W' : World} (h : Keep S w W) (hb : Below W.heap.size W W') : Keep S w W' := h.trans (Keep.of_below hb)
theorem Blk.keep {S : Nat → Prop} {W W' : World} {B : Nat} {T : TypeId} {cs : List Value} (h : Blk W B T cs) (hk : Keep S W W') (hn : ¬ S B) : Blk W' B T cs := (hk.block B h.lt hn).trans h
theorem Blk.type_ne {W : World} {B B' : Nat} {T T' : TypeId} {cs cs' : List Value} (h : Blk W B T cs) (h' : Blk W B' T' cs') (hn : T ≠ T') : B ≠ B' := fun e => by
  subst e
  unfold Blk at h h'
  rw [h] at h'
  simp at h'
  exact hn h'.2
theorem cells_new (w : World) (xs : List Value) (T : TypeId) : ∀ j u, xs[j]? = some u → (w.alloc (.cells xs.toArray T)).cell? ((⟨w.heap.size, 0, none⟩ : Addr).add j) = some u := by
  intro j u hj
  have := (Blk.new w T xs).cell j
  unfold Addr.add
  by_cases h : j = 0
  · subst h; simpa [this] using hj
  · simp only [h, if_false, Nat.zero_add]; rw [this]; exact hj
end Ear
theorem owns_setN {w : World} {b e s n g i : Nat} {u v : Value} {xs : List Value} (h : w.ownsRow b e s v n xs) (hg : some g ≠ v.ownBlock) : (w.setCell ⟨g, i, none⟩ u).ownsRow b e s v n xs := by
  obtain ⟨hl, h | ⟨g', cap', cur, hv, hb1, hc, hr⟩⟩ := h
  · exact ⟨hl, .inl h⟩
  · exact ⟨hl, .inr ⟨g', cap', cur, hv, hb1, (heap_setCell_other w _ g' u (by show g' ≠ g; intro e; apply hg; rw [hv, e]; rfl)).trans hc, hr⟩⟩
theorem own_type_ne {w : World} {b e s n B T : Nat} {v : Value} {xs cs : List Value} (h : w.ownsRow b e s v n xs) (hb : Ear.Blk w B T cs) (ht : T ≠ e) : some B ≠ v.ownBlock := fun he => by
  obtain ⟨hl, ⟨hv, hn⟩ | ⟨g', cap', cur, hv, hb1, hc, hr⟩⟩ := h
  · rw [hv] at he; cases he
  · rw [hv] at he
    simp only [Value.ownBlock, Option.some.injEq] at he
    subst he
    unfold Ear.Blk at hb
    rw [hb] at hc
    simp at hc
    exact ht hc.2
/-- A slice's row of elements of any size, to be read. -/
theorem owns_liesV {w : World} {b e s n cap : Nat} {base : Option Addr} {xs : List Value} (h : w.ownsRow b e s (.slice base n cap) n xs) : LiesV xs base w := by
  intro i hi
  obtain ⟨hl, ⟨hv, hn⟩ | ⟨g, cap', cur, hv, hb, hc, h1, h2, h3, h4⟩⟩ := h
  · subst hn; rw [Nat.zero_mul] at hl; omega
  · simp only [Value.slice.injEq] at hv
    obtain ⟨rfl, -, rfl⟩ := hv
    refine ⟨g, 0, rfl, (Array.getElem?_eq_some_iff.1 hc).1, ?_⟩
    rw [cell_of_row w g (0 + i) cur e (0, 0) hc, ← h4]
    simp only [Nat.zero_add]
    rw [List.getElem?_take]
    simp; omega
/-- An append, at the operation itself: with the place of the row that it leaves. -/
theorem wp_append_at {P : Program} {w : World} {o : Oper} {a : Act} {K : Act → World → Prop} {Q : Exit → Act → World → Prop} (s x : Operand) (t : TypeId) (ho : o.op = .call { callee := .builtin .append, args := #[s, x], argTypes := #[t, t] })
    (base : Nat) (e : TypeId) (i : TypeInfo) (z : Value) (size bytes : Nat) (ht : P.underlying t = some (.slice e)) (hi : P.info? e = some i) (hz : i.zero = some z) (hsize : i.size = size) (hby : i.bytes = bytes) (hzs : z.cells.size = size) (hsz : 0 < size)
    (v : Value) (n : Nat) (xs : List Value) (hs : a.eval s = v) (hown : w.ownsRow base e size v n xs) (ad : Addr) (m c : Nat) (news : List Value) (hx : a.eval x = .slice (some ad) m c) (hl : news.length = m * size)
    (hnews : ∀ j u, news[j]? = some u → w.cell? (ad.add j) = some u) (h1 : ∀ u ∈ news, u.oneCell' = true) (h63 : n + m ≤ maxLen) (hbytes : (n + m) * bytes ≤ 140737488355328) (hbase : base ≤ w.heap.size)
    (h : ∀ v' w', w'.ownsRow base e size v' (n + m) (xs ++ news) → w.grownBy w' v.ownBlock → (v'.ownBlock = v.ownBlock ∨ v'.ownBlock = some w.heap.size) → K (a.put o.dst v') w') : o.wp P a w K Q := by
  obtain ⟨v', w', hr, h2, h3, h4, h5⟩ := run_append_own_at (P := P) (w := w) base t o.type e i z size bytes ht hi hz hsize hby hzs hsz v n xs hown ad m c news hl hnews h1 h63 hbytes hbase
  unfold Oper.wp execOp
  simp only [ho, resolve, invoke, builtin, Sem.run_bind, Sem.run_pure, Result.andThen_ok, List.map_toArray, List.map_cons, List.map_nil, hs, hx, hr]
  exact h v' w' h2 h3 h5
end Go.Proofs.Ytklfkfnckdeifaa
end
section
namespace Go.Proofs.Ytklfkfnckdeifaa
set_option linter.unusedSimpArgs false
set_option linter.unusedVariables false
/-- A notice. -/
structure Nt where
  of_ : Int
  tag : Int
  kind : Int
theorem Nt.ext' {x y : Nt} (h1 : x.of_ = y.of_) (h2 : x.tag = y.tag) (h3 : x.kind = y.kind) : x = y := by cases x; cases y; simp_all
def tagOk (x : Nt) : Bool := decide (0 ≤ x.tag) && decide (x.tag ≤ 1048576)
def kindOk (x : Nt) : Bool := (x.kind == 1) || (x.kind == 2)
def validN (n : Int) (x : Nt) : Bool := decide (1 ≤ n) && decide (n ≤ 100) && decide (0 ≤ x.of_) && decide (x.of_ < n) && tagOk x && kindOk x
def rankN (x : Nt) : Int := if tagOk x = true then (if x.kind = 1 then 2 * x.tag else if x.kind = 2 then 2 * x.tag + 1 else -1) else -1
def beatsN (a b : Nt) : Bool := decide (a.of_ = b.of_) && decide (0 ≤ rankN b) && decide (rankN b < rankN a)
theorem rank_iff (x : Nt) : 0 ≤ rankN x ↔ tagOk x = true ∧ kindOk x = true := by
  unfold rankN kindOk
  by_cases h : tagOk x = true
  · rw [if_pos h]
    have h' := h
    unfold tagOk at h'
    simp only [Bool.and_eq_true, decide_eq_true_eq] at h'
    by_cases h1 : x.kind = 1
    · simp [h, h1]; omega
    · by_cases h2 : x.kind = 2
      · simp [h, h2]; omega
      · simp [h1, h2]
  · rw [if_neg h]; simp [h]
theorem rank_inj {x y : Nt} (hx : 0 ≤ rankN x) (ho : x.of_ = y.of_) (h : rankN x = rankN y) : x = y := by
  have hy : 0 ≤ rankN y := h ▸ hx
  obtain ⟨t1, k1⟩ := (rank_iff x).1 hx
  obtain ⟨t2, k2⟩ := (rank_iff y).1 hy
  unfold rankN at h
  rw [if_pos t1, if_pos t2] at h
  unfold kindOk at k1 k2
  simp only [Bool.or_eq_true, beq_iff_eq] at k1 k2
  refine Nt.ext' ho ?_ ?_
  · rcases k1 with k1 | k1 <;> rcases k2 with k2 | k2 <;> simp [k1, k2] at h <;> omega
  · rcases k1 with k1 | k1 <;> rcases k2 with k2 | k2 <;> simp [k1, k2] at h ⊢ <;> omega
theorem valid_of {n : Nat} {x : Nt} (h1 : 1 ≤ n) (h2 : n ≤ 100) (h3 : 0 ≤ x.of_) (h4 : x.of_ < n) (h5 : 0 ≤ rankN x) : validN n x = true := by
  obtain ⟨a, b⟩ := (rank_iff x).1 h5
  unfold validN
  rw [a, b]
  simp
  omega
theorem of_valid {n : Int} {x : Nt} (h : validN n x = true) : 0 ≤ x.of_ ∧ x.of_ < n ∧ 0 ≤ rankN x := by
  unfold validN at h
  simp only [Bool.and_eq_true, decide_eq_true_eq] at h
  exact ⟨h.1.1.1.2, h.1.1.2, (rank_iff x).2 ⟨h.1.2, h.2⟩⟩
/-- A book: of each node one notice. -/
structure BookOk (L : List Nt) : Prop where
  pos : 1 ≤ L.length
  most : L.length ≤ 100
  each : ∀ i (h : i < L.length), L[i].of_ = (i : Int) ∧ 0 ≤ rankN L[i]
def takeB (L : List Nt) (x : Nt) : Bool := validN L.length x && (match L[x.of_.toNat]? with | some y => beatsN x y | none => false)
def takeN (L : List Nt) (x : Nt) : List Nt := if takeB L x = true then L.set x.of_.toNat x else L
theorem takeN_len (L : List Nt) (x : Nt) : (takeN L x).length = L.length := by unfold takeN; split <;> simp
theorem takeN_get {L : List Nt} (hL : BookOk L) (x : Nt) (i : Nat) (h : i < L.length) :
    (takeN L x)[i]'(by rw [takeN_len]; exact h) = if validN L.length x = true ∧ x.of_ = (i : Int) ∧ rankN L[i] < rankN x then x else L[i] := by
  obtain ⟨ho, hr⟩ := hL.each i h
  by_cases hc : validN L.length x = true ∧ x.of_ = (i : Int) ∧ rankN L[i] < rankN x
  · rw [if_pos hc]
    obtain ⟨hv, hi, hb⟩ := hc
    have hin : x.of_.toNat = i := by omega
    have ht : takeB L x = true := by
      unfold takeB
      rw [hv, hin, List.getElem?_eq_getElem h]
      unfold beatsN
      simp [ho, hi, hr, hb]
    have he : takeN L x = L.set i x := by unfold takeN; rw [if_pos ht, hin]
    simp only [he, List.getElem_set_self]
  · rw [if_neg hc]
    by_cases ht : takeB L x = true
    · have he : takeN L x = L.set x.of_.toNat x := by unfold takeN; rw [if_pos ht]
      simp only [he]
      by_cases hin : x.of_.toNat = i
      · exfalso
        unfold takeB at ht
        simp only [Bool.and_eq_true] at ht
        obtain ⟨hv, hb⟩ := ht
        rw [hin, List.getElem?_eq_getElem h] at hb
        unfold beatsN at hb
        simp only [Bool.and_eq_true, decide_eq_true_eq] at hb
        have := (of_valid hv).1
        exact hc ⟨hv, by omega, hb.2⟩
      · rw [List.getElem_set_ne hin]
    · have he : takeN L x = L := by unfold takeN; rw [if_neg ht]
      simp only [he]
theorem takeN_ok {L : List Nt} (hL : BookOk L) (x : Nt) : BookOk (takeN L x) := by
  refine ⟨by rw [takeN_len]; exact hL.pos, by rw [takeN_len]; exact hL.most, fun i h => ?_⟩
  have h' : i < L.length := by rw [takeN_len] at h; exact h
  rw [takeN_get hL x i h']
  split
  · rename_i hc
    exact ⟨hc.2.1, by have := (hL.each i h').2; omega⟩
  · exact hL.each i h'
def takesN (L : List Nt) (l : List Nt) : List Nt := l.foldl takeN L
theorem takesN_len (L l : List Nt) : (takesN L l).length = L.length := by
  induction l generalizing L with
  | nil => rfl
  | cons a l ih => rw [show takesN L (a :: l) = takesN (takeN L a) l from rfl, ih, takeN_len]
theorem takesN_ok {L : List Nt} (hL : BookOk L) (l : List Nt) : BookOk (takesN L l) := by
  induction l generalizing L with
  | nil => exact hL
  | cons a l ih => exact ih (takeN_ok hL a)
theorem takesN_char {L : List Nt} (hL : BookOk L) (l : List Nt) (i : Nat) (h : i < L.length) :
    ((takesN L l)[i]'(by rw [takesN_len]; exact h) = L[i] ∨ (takesN L l)[i]'(by rw [takesN_len]; exact h) ∈ l) ∧ rankN L[i] ≤ rankN ((takesN L l)[i]'(by rw [takesN_len]; exact h)) ∧
      ∀ z ∈ l, validN L.length z = true → z.of_ = (i : Int) → rankN z ≤ rankN ((takesN L l)[i]'(by rw [takesN_len]; exact h)) := by
  induction l generalizing L with
  | nil => exact ⟨.inl rfl, Int.le_refl _, by simp⟩
  | cons a l ih =>
    have h' : i < (takeN L a).length := by rw [takeN_len]; exact h
    obtain ⟨c1, c2, c3⟩ := ih (takeN_ok hL a) h'
    have hg := takeN_get hL a i h
    simp only [show takesN L (a :: l) = takesN (takeN L a) l from rfl]
    by_cases hc : validN L.length a = true ∧ a.of_ = (i : Int) ∧ rankN L[i] < rankN a
    · rw [if_pos hc] at hg
      rw [hg] at c1 c2
      refine ⟨.inr ?_, by omega, ?_⟩
      · rcases c1 with c1 | c1
        · rw [c1]; exact List.mem_cons_self
        · exact List.mem_cons_of_mem _ c1
      · intro z hz hv ho
        rcases List.mem_cons.1 hz with rfl | hz
        · exact c2
        · exact c3 z hz (by rw [takeN_len]; exact hv) ho
    · rw [if_neg hc] at hg
      rw [hg] at c1 c2
      refine ⟨?_, c2, ?_⟩
      · rcases c1 with c1 | c1
        · exact .inl c1
        · exact .inr (List.mem_cons_of_mem _ c1)
      · intro z hz hv ho
        rcases List.mem_cons.1 hz with rfl | hz
        · have : ¬ rankN L[i] < rankN z := fun hh => hc ⟨hv, ho, hh⟩
          omega
        · exact c3 z hz (by rw [takeN_len]; exact hv) ho
/-- In whatever order notices are taken, the book is the same. -/
theorem takesN_same {L : List Nt} (hL : BookOk L) {l m : List Nt} (h : ∀ x, x ∈ l ↔ x ∈ m) : takesN L l = takesN L m := by
  apply List.ext_getElem
  · rw [takesN_len, takesN_len]
  · intro i h1 h2
    have hi : i < L.length := by rw [takesN_len] at h1; exact h1
    obtain ⟨a1, a2, a3⟩ := takesN_char hL l i hi
    obtain ⟨b1, b2, b3⟩ := takesN_char hL m i hi
    obtain ⟨o1, r1⟩ := (takesN_ok hL l).each i h1
    obtain ⟨o2, r2⟩ := (takesN_ok hL m).each i h2
    refine rank_inj r1 (o1.trans o2.symm) ?_
    have v1 : validN L.length ((takesN L l)[i]) = true := valid_of hL.pos hL.most (by rw [o1]; omega) (by rw [o1]; omega) r1
    have v2 : validN L.length ((takesN L m)[i]) = true := valid_of hL.pos hL.most (by rw [o2]; omega) (by rw [o2]; omega) r2
    apply Int.le_antisymm
    · rcases a1 with a1 | a1
      · rw [a1]; exact b2
      · exact b3 _ ((h _).1 a1) v1 o1
    · rcases b1 with b1 | b1
      · rw [b1]; exact a2
      · exact a3 _ ((h _).2 b1) v2 o2
end Go.Proofs.Ytklfkfnckdeifaa
end
section
namespace Go.Proofs.Ytklfkfnckdeifaa
set_option linter.unusedSimpArgs false
set_option linter.unusedVariables false
open Go.RowKit
theorem own_put {w : World} {b e s n cap g i : Nat} {v : Value} {xs : List Value} (h : w.ownsRow b e s (.slice (some ⟨g, 0, none⟩) n cap) n xs) : (w.setCell ⟨g, i, none⟩ v).ownsRow b e s (.slice (some ⟨g, 0, none⟩) n cap) n (xs.set i v) := by
  obtain ⟨hl, ⟨hv, -⟩ | ⟨g', cap', cur, hv, hb, hc, h1, h2, h3, h4⟩⟩ := h
  · cases hv
  · simp only [Value.slice.injEq, Option.some.injEq, Addr.mk.injEq] at hv
    obtain ⟨⟨rfl, -, -⟩, -, rfl⟩ := hv
    have hB : Ear.Blk w g e cur.toList := by unfold Ear.Blk; simpa using hc
    have hB' := hB.set i v
    refine ⟨by simp [hl], .inr ⟨g, cap, (cur.toList.set i v).toArray, rfl, hb, hB', h1, h2, by simp [h3], ?_⟩⟩
    rw [← h4, List.take_set]
def ntV (x : Nt) : List Value := [.int .i64 x.of_, .int .i64 x.tag, .int .i64 x.kind]
def ntsV (L : List Nt) : List Value := L.flatMap ntV
theorem ntsV_len (L : List Nt) : (ntsV L).length = L.length * 3 := by
  induction L with
  | nil => rfl
  | cons x t ih => simp only [ntsV, List.flatMap_cons, List.length_append, List.length_cons, ntV, List.length_nil] at ih ⊢; omega
theorem ntsV_cons (x : Nt) (L : List Nt) : ntsV (x :: L) = .int .i64 x.of_ :: .int .i64 x.tag :: .int .i64 x.kind :: ntsV L := by simp [ntsV, ntV]
theorem ntsV_snoc (L : List Nt) (x : Nt) : ntsV (L ++ [x]) = ntsV L ++ ntV x := by simp [ntsV]
theorem ntsV_get (L : List Nt) (i j : Nat) (hi : i < L.length) (hj : j < 3) : (ntsV L)[i * 3 + j]? = (ntV L[i])[j]? := by
  induction L generalizing i with
  | nil => simp at hi
  | cons x t ih =>
    rw [ntsV_cons]
    cases i with
    | zero =>
      rw [Nat.zero_mul, Nat.zero_add]
      rcases (by omega : j = 0 ∨ j = 1 ∨ j = 2) with rfl | rfl | rfl <;> rfl
    | succ i =>
      rw [show (i + 1) * 3 + j = (i * 3 + j) + 1 + 1 + 1 by omega]
      simp only [List.getElem?_cons_succ, List.getElem_cons_succ]
      exact ih i (by simpa using hi)
theorem ntsV_set (L : List Nt) (i : Nat) (x : Nt) (hi : i < L.length) : ntsV (L.set i x) = (((ntsV L).set (i * 3) (.int .i64 x.of_)).set (i * 3 + 1) (.int .i64 x.tag)).set (i * 3 + 2) (.int .i64 x.kind) := by
  induction L generalizing i with
  | nil => simp at hi
  | cons y t ih =>
    cases i with
    | zero => simp only [List.set_cons_zero, ntsV_cons, Nat.zero_mul, Nat.zero_add, List.set_cons_succ]
    | succ i =>
      rw [show (i + 1) * 3 = i * 3 + 1 + 1 + 1 by omega]
      rw [show i * 3 + 1 + 1 + 1 + 1 = (i * 3 + 1) + 1 + 1 + 1 by omega, show i * 3 + 1 + 1 + 1 + 2 = (i * 3 + 2) + 1 + 1 + 1 by omega]
      simp only [List.set_cons_succ, ntsV_cons]
      rw [ih i (by simpa using hi)]
/-- What a book turned in place reads. -/
theorem own_nt {w : World} {b e n cap g k : Nat} {L : List Nt} {x : Nt} (h : w.ownsRow b e 3 (.slice (some ⟨g, 0, none⟩) n cap) n (ntsV L)) (hk : k < L.length) :
    (((w.setCell ⟨g, k * 3, none⟩ (.int .i64 x.of_)).setCell ⟨g, k * 3 + 1, none⟩ (.int .i64 x.tag)).setCell ⟨g, k * 3 + 2, none⟩ (.int .i64 x.kind)).ownsRow b e 3 (.slice (some ⟨g, 0, none⟩) n cap) n (ntsV (L.set k x)) := by
  rw [ntsV_set L k x hk]
  exact own_put (own_put (own_put h))
end Go.Proofs.Ytklfkfnckdeifaa
end
