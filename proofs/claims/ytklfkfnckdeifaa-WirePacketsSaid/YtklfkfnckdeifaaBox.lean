/-
  A range over a function whose variable lies in a box of several cells, laid anew in each round.
-/
import Derived.Test.YtklfkfnckdeifaaIter
import Derived.RangeFuncNested
namespace Go.Proofs.Ytklfkfnckdeifaa
set_option linter.unusedSimpArgs false
set_option linter.unusedVariables false
open Go.RowKit
/-- The frame in which a round begins: the parameter is laid, the box is named. -/
def boxAct (p : Tmp) (v : Value) (bt : Tmp) (bx : Nat) (T : Array Value) : Act :=
  { tmps := (T.setIfInBounds p v).setIfInBounds bt (.pointer (some ⟨bx, 0, none⟩)), defers := [] }
theorem wpIn_rangeFunc_box {F : Fence} {n : Nat} {P : Program} {w : World} {α : Type} {g : Operand} {p : Tmp} {assign body : Code} {Q : Exit → Act → World → Prop} {a : Act}
    (hro : F.round = none) (h1 : 1 ≤ n) {gf : Nat} {lb : Array Value} (hg : a.eval g = .func (.func gf) #[] lb) (hFg : F.fn gf) (eg : ∀ args w, (callFunc gf args).run P w = .ok (.enter gf args) w)
    {enc : α → Value} {Kp : World → World → Prop} {S Sp : List α → Prop} {N : Nat} {w0 : World} (hseq : SeqStopsK F (n - 1) P gf lb (fun x => #[enc x]) Kp S Sp N w0)
    (hKt : ∀ {A B C : World}, Kp A B → Kp B C → Kp A C) (hKb : ∀ (W : World) (l : Nat) (o o' : Obj), w.heap.size ≤ l → W.heap[l]? = some o → o.isCells = false → o.isWalk = false → Kp W (W.putObj l o')) (hb0 : Below w0.heap.size w0 w)
    (I : List α → World → Prop) (Ix : Code → List α → World → Prop) (hI : OwnFrom w.heap.size I) (hIx : ∀ c, OwnFrom w.heap.size (Ix c)) (h0 : I [] w)
    (bt : Tmp) (T : TypeId) (cells : α → List Value) (hsz : ∀ pre W, I pre W → w.heap.size ≤ W.heap.size) (hKa : ∀ pre W o, I pre W → Kp W (W.alloc o))
    (hassign : ∀ (l : Nat) (x : α) (W : World) (K : Act → World → Prop), K (boxAct p (enc x) bt W.heap.size a.tmps) (W.alloc (.cells (cells x).toArray T)) →
      assign.wpIn (F.inRound l) (n - 1 - 1) P (Exit.then K (fun _ _ _ => False)) { tmps := a.tmps.setIfInBounds p (enc x), defers := [] } W)
    (hbody : ∀ (l : Nat) (pre : List α) (x : α) (bx : Nat) (W : World), w.heap.size ≤ l → (∃ r, W.heap[l]? = some (.loop r)) → I pre W → Ear.Blk W bx T (cells x) → w.heap.size ≤ bx → pre.length < N → body.wpIn (F.inRound l) (n - 1 - 1) P (ownPostG w.heap.size Kp I Ix (pre ++ [x]) W) (boxAct p (enc x) bt bx a.tmps) W)
    (hdone : ∀ (D : Nat) (xs : List α) (W : World), w.heap.size ≤ D → S xs → I xs W → W.heap[D]? = some (.deferred (some [])) → Q .normal { a with defers := { target := .collected D, args := #[] } :: a.defers } W)
    (hstop : ∀ (D : Nat) (c : Code) (pre : List α) (W : World), w.heap.size ≤ D → Sp pre → Ix c pre W → W.heap[D]? = some (.deferred (some [])) → c.wpIn F n P Q { a with defers := { target := .collected D, args := #[] } :: a.defers } W) :
    (Code.rangeFunc g #[p] assign body).wpIn F n P Q a w := by
  refine wpIn_rangeFunc_ownH hro h1 hg hFg eg hseq hKt hKb hb0 (fun _ => rfl) I Ix hI hIx h0
    (fun x a' W => ∃ bx, a' = boxAct p (enc x) bt bx a.tmps ∧ Ear.Blk W bx T (cells x) ∧ w.heap.size ≤ bx) ?_ ?_ ?_ hdone hstop
  · rintro x a' _ A B row ⟨bx, h1, h2, h3⟩ hg hr
    exact ⟨bx, h1, h2.ownF hg hr, h3⟩
  · intro l pre x W K hi hK
    have e : ((#[p].zip #[enc x]).foldl (fun (t : Array Value) (pv : Tmp × Value) => t.setIfInBounds pv.1 pv.2) a.tmps) = a.tmps.setIfInBounds p (enc x) := by simp
    have := hassign l x W K (hK _ _ ((KeepsOthers.alloc W _).from _) (hKa pre W _ hi) (hI.alloc _ hi) ⟨W.heap.size, rfl, Ear.Blk.new W _ _, hsz pre W hi⟩)
    rw [← e] at this
    exact this
  · rintro l pre x a' W hl hr hi ⟨bx, rfl, hb, hbx⟩ hn
    exact hbody l pre x bx W hl hr hi hb hbx hn
end Go.Proofs.Ytklfkfnckdeifaa
