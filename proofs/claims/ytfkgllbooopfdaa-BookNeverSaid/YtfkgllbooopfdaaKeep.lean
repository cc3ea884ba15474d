/-
  What a call may turn that writes to blocks of its caller: the blocks of a set alone.
-/
import Derived.Test.YtfkgllbooopfdaaInts
import Derived.WalkKit
import Derived.Maps.AppendAt
namespace Go.Proofs.Ytfkgllbooopfdaa
set_option linter.unusedSimpArgs false
set_option linter.unusedVariables false
open Go.RowKit
namespace Ear
/-- Blocks outside S lie as they lay. -/
structure Keep (S : Nat → Prop) (w w' : World) : Prop where
  os : w'.os = w.os
  tape : w'.tape = w.tape
  output : w'.output = w.output
  size : w.heap.size ≤ w'.heap.size
  block : ∀ k, k < w.heap.size → ¬ S k → w'.heap[k]? = w.heap[k]?
theorem Keep.refl (S : Nat → Prop) (w : World) : Keep S w w := ⟨rfl, rfl, rfl, Nat.le_refl _, fun _ _ _ => rfl⟩
theorem Keep.of_below {S : Nat → Prop} {w w' : World} (h : Below w.heap.size w w') : Keep S w w' := ⟨h.os, h.tape, h.output, h.size, fun k hk _ => h.block k hk⟩
theorem Keep.trans {S : Nat → Prop} {a b c : World} (h : Keep S a b) (k : Keep S b c) : Keep S a c :=
  ⟨k.os.trans h.os, k.tape.trans h.tape, k.output.trans h.output, Nat.le_trans h.size k.size, fun i hi hs => (k.block i (Nat.lt_of_lt_of_le hi h.size) hs).trans (h.block i hi hs)⟩
theorem Keep.mono {S S' : Nat → Prop} {w w' : World} (h : Keep S w w') (hs : ∀ k, k < w.heap.size → S k → S' k) : Keep S' w w' := ⟨h.os, h.tape, h.output, h.size, fun k hk hn => h.block k hk (fun h1 => hn (hs k hk h1))⟩
theorem Keep.below {S : Nat → Prop} {n : Nat} {a w w' : World} (hb : Below n a w) (h : Keep S w w') (hn : n ≤ w.heap.size) (hS : ∀ k, S k → n ≤ k) : Below n a w' :=
  hb.trans ⟨h.os, h.tape, h.output, h.size, fun k hk => h.block k (by omega) (fun hs => by have := hS k hs; omega)⟩
theorem Keep.alloc {S : Nat → Prop} {w W : World} (h : Keep S w W) (o : Obj) : Keep S w (W.alloc o) :=
  h.trans (Keep.of_below ((Below.refl _ W).alloc (Nat.le_refl _) o))
theorem Keep.drew {S : Nat → Prop} {w W : World} (h : Keep S w W) : Keep S w W.drew := ⟨h.os, h.tape, h.output, h.size, h.block⟩
theorem Keep.setCell {S : Nat → Prop} {w W : World} (h : Keep S w W) {p : Addr} (hp : S p.block ∨ w.heap.size ≤ p.block) (v : Value) : Keep S w (W.setCell p v) :=
  ⟨h.os, h.tape, h.output, by simpa [World.setCell] using h.size, fun k hk hs => by
    rw [Below.heap_setCell _ _ _ _ (fun e => by subst e; rcases hp with hp | hp; exact hs hp; omega)]; exact h.block k hk hs⟩
theorem Keep.grown {S : Nat → Prop} {w W W' : World} {row : Option Nat} (h : Keep S w W) (hg : W.grownBy W' row) (hr : ∀ k, row = some k → S k ∨ w.heap.size ≤ k) : Keep S w W' :=
  ⟨hg.os.trans h.os, hg.tape.trans h.tape, hg.output.trans h.output, Nat.le_trans h.size hg.size, fun k hk hs =>
    (hg.block k (Nat.lt_of_lt_of_le hk h.size) (fun e => by rcases hr k e.symm with h1 | h1; exact hs h1; omega)).trans (h.block k hk hs)⟩
theorem Keep.call {S : Nat → Prop} {w W W' : World} (h : Keep S w W) (hb : Below W.heap.size W W') : Keep S w W' := h.trans (Keep.of_below hb)
theorem Blk.keep {S : Nat → Prop} {W W' : World} {B : Nat} {T : TypeId} {cs : List Value} (h : Blk W B T cs) (hk : Keep S W W') (hn : ¬ S B) : Blk W' B T cs := (hk.block B h.lt hn).trans h
theorem Blk.type_ne {W : World} {B B' : Nat} {T T' : TypeId} {cs cs' : List Value} (h : Blk W B T cs) (h' : Blk W B' T' cs') (hn : T ≠ T') : B ≠ B' := fun e => by
  subst e
  unfold Blk at h h'
  rw [h] at h'
  simp at h'
  exact hn h'.2
theorem cells_new (w : World) (xs : List Value) (T : TypeId) : ∀ j u, xs[j]? = some u → (w.alloc (.cells xs.toArray T)).cell? ((⟨w.heap.size, 0, none⟩ : Addr).add j) = some u := by
  intro j u hj
  have := (Blk.new w T xs).cell j
  unfold Addr.add
  by_cases h : j = 0
  · subst h; simpa [this] using hj
  · simp only [h, if_false, Nat.zero_add]; rw [this]; exact hj
end Ear
theorem owns_setN {w : World} {b e s n g i : Nat} {u v : Value} {xs : List Value} (h : w.ownsRow b e s v n xs) (hg : some g ≠ v.ownBlock) : (w.setCell ⟨g, i, none⟩ u).ownsRow b e s v n xs := by
  obtain ⟨hl, h | ⟨g', cap', cur, hv, hb1, hc, hr⟩⟩ := h
  · exact ⟨hl, .inl h⟩
  · exact ⟨hl, .inr ⟨g', cap', cur, hv, hb1, (heap_setCell_other w _ g' u (by show g' ≠ g; intro e; apply hg; rw [hv, e]; rfl)).trans hc, hr⟩⟩
theorem own_type_ne {w : World} {b e s n B T : Nat} {v : Value} {xs cs : List Value} (h : w.ownsRow b e s v n xs) (hb : Ear.Blk w B T cs) (ht : T ≠ e) : some B ≠ v.ownBlock := fun he => by
  obtain ⟨hl, ⟨hv, hn⟩ | ⟨g', cap', cur, hv, hb1, hc, hr⟩⟩ := h
  · rw [hv] at he; cases he
  · rw [hv] at he
    simp only [Value.ownBlock, Option.some.injEq] at he
    subst he
    unfold Ear.Blk at hb
    rw [hb] at hc
    simp at hc
    exact ht hc.2
/-- A slice's row of elements of any size, to be read. -/
theorem owns_liesV {w : World} {b e s n cap : Nat} {base : Option Addr} {xs : List Value} (h : w.ownsRow b e s (.slice base n cap) n xs) : LiesV xs base w := by
  intro i hi
  obtain ⟨hl, ⟨hv, hn⟩ | ⟨g, cap', cur, hv, hb, hc, h1, h2, h3, h4⟩⟩ := h
  · subst hn; rw [Nat.zero_mul] at hl; omega
  · simp only [Value.slice.injEq] at hv
    obtain ⟨rfl, -, rfl⟩ := hv
    refine ⟨g, 0, rfl, (Array.getElem?_eq_some_iff.1 hc).1, ?_⟩
    rw [cell_of_row w g (0 + i) cur e (0, 0) hc, ← h4]
    simp only [Nat.zero_add]
    rw [List.getElem?_take]
    simp; omega
/-- An append, at the operation itself: with the place of the row that it leaves. -/
theorem wp_append_at {P : Program} {w : World} {o : Oper} {a : Act} {K : Act → World → Prop} {Q : Exit → Act → World → Prop} (s x : Operand) (t : TypeId) (ho : o.op = .call { callee := .builtin .append, args := #[s, x], argTypes := #[t, t] })
    (base : Nat) (e : TypeId) (i : TypeInfo) (z : Value) (size bytes : Nat) (ht : P.underlying t = some (.slice e)) (hi : P.info? e = some i) (hz : i.zero = some z) (hsize : i.size = size) (hby : i.bytes = bytes) (hzs : z.cells.size = size) (hsz : 0 < size)
    (v : Value) (n : Nat) (xs : List Value) (hs : a.eval s = v) (hown : w.ownsRow base e size v n xs) (ad : Addr) (m c : Nat) (news : List Value) (hx : a.eval x = .slice (some ad) m c) (hl : news.length = m * size)
    (hnews : ∀ j u, news[j]? = some u → w.cell? (ad.add j) = some u) (h1 : ∀ u ∈ news, u.oneCell' = true) (h63 : n + m ≤ maxLen) (hbytes : (n + m) * bytes ≤ 140737488355328) (hbase : base ≤ w.heap.size)
    (h : ∀ v' w', w'.ownsRow base e size v' (n + m) (xs ++ news) → w.grownBy w' v.ownBlock → (v'.ownBlock = v.ownBlock ∨ v'.ownBlock = some w.heap.size) → K (a.put o.dst v') w') : o.wp P a w K Q := by
  obtain ⟨v', w', hr, h2, h3, h4, h5⟩ := run_append_own_at (P := P) (w := w) base t o.type e i z size bytes ht hi hz hsize hby hzs hsz v n xs hown ad m c news hl hnews h1 h63 hbytes hbase
  unfold Oper.wp execOp
  simp only [ho, resolve, invoke, builtin, Sem.run_bind, Sem.run_pure, Result.andThen_ok, List.map_toArray, List.map_cons, List.map_nil, hs, hx, hr]
  exact h v' w' h2 h3 h5
end Go.Proofs.Ytfkgllbooopfdaa
