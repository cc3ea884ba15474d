/-
  What the laws' first call comes to.
  A rule for regions that draw their order and allocate: a head of operations each of which comes to one value, or allocates; then a tail whose order is forced. Plain, and in a fence.
  Contracts of the idset functions that take the result by a fact.
-/
import Derived.Test.YtklfkfnckdeifaaSets
import Derived.WalkKit
import Derived.WalkSpells
import Derived.WalkLawsBesides
import Derived.Handy
import Derived.Lib.Hide
import Derived.Test.YtklfkfnckdeifaaLib
import Derived.Test.YtklfkfnckdeifaaMath
section
namespace Go.Proofs.Ytklfkfnckdeifaa
set_option linter.unusedSimpArgs false
set_option linter.unusedVariables false
open Go.RowKit
attribute [local go_sem] eqSet
theorem cnt_alive : Ear.cnt128 (Ear.clean (ofL [0, 33])) = 2 := by decide

end Go.Proofs.Ytklfkfnckdeifaa
end
section
namespace Go.Proofs.Ytklfkfnckdeifaa
set_option linter.unusedSimpArgs false
set_option linter.unusedVariables false
open Go.RowKit
namespace Ear

/-- From a world of the class to one. -/
def Inn (C : World → Prop) (w w' : World) : Prop := C w' ∧ Below w.heap.size w w'
/-- An allocation: its place, its slot, the type of its cells, the cells. -/
abbrev AL := Nat × Tmp × TypeId × List Value
def isAlloc (o : Oper) : Bool := match o.op with | .alloc _ => true | _ => false
def repl (o : Oper) : Oper := match o.op with | .alloc _ => { o with dst := none, op := .move (.const undef) } | _ => o
theorem repl_after (o : Oper) : (repl o).after = o.after := by unfold repl; split <;> rfl
theorem repl_guard (o : Oper) : (repl o).guard = o.guard := by unfold repl; split <;> rfl
theorem repl_dst {o : Oper} (h : isAlloc o = true) : (repl o).dst = none := by
  unfold isAlloc at h; unfold repl; split at h <;> simp_all
theorem repl_same {o : Oper} (h : isAlloc o = false) : repl o = o := by
  unfold isAlloc at h; unfold repl; split <;> simp_all

def ovo (d : Tmp) (o : Option Nat) (a : Act) : Act := match o with | none => a | some B => a.put (some d) (.pointer (some ⟨B, 0, none⟩))
def ov (o : Nat → Option Nat) : List AL → Act → Act
  | [], a => a
  | p :: A, a => ov o A (ovo p.2.1 (o p.1) a)
/-- The places differ, and the slots. -/
def Nd (A : List AL) : Prop := A.Pairwise (fun p q => p.1 ≠ q.1 ∧ p.2.1 ≠ q.2.1)

theorem ovo_put (d : Tmp) (o : Option Nat) (a : Act) (dst : Option Tmp) (v : Value) (h : dst ≠ some d) : ovo d o (a.put dst v) = (ovo d o a).put dst v := by
  cases o with
  | none => rfl
  | some B => exact Act.put_comm a (x := dst) (y := some d) v _ (fun e he hd => h (by rw [he, hd]))
theorem ov_put {o : Nat → Option Nat} {dst : Option Tmp} {v : Value} : ∀ {A : List AL} {a : Act}, (∀ p ∈ A, dst ≠ some p.2.1) → ov o A (a.put dst v) = (ov o A a).put dst v
  | [], a, _ => rfl
  | p :: A, a, h => by
    simp only [ov]
    rw [ovo_put _ _ _ _ _ (h p (by simp))]
    exact ov_put (fun q hq => h q (by simp [hq]))
theorem ov_size (o : Nat → Option Nat) : ∀ (A : List AL) (a : Act), (ov o A a).tmps.size = a.tmps.size
  | [], a => rfl
  | p :: A, a => by
    simp only [ov]
    rw [ov_size o A]
    unfold ovo
    cases o p.1 <;> simp [Act.put]
theorem ov_exec {o : Nat → Option Nat} {x : Oper} {ops : Array Oper} : ∀ {A : List AL} {a : Act}, (∀ p ∈ A, p.2.1 ∉ x.looksAt ops) → (∀ cs b, x.op ≠ .select cs b) → execOp (ov o A a).eval x = execOp a.eval x
  | [], a, _, _ => rfl
  | p :: A, a, h, hs => by
    simp only [ov]
    rw [ov_exec (fun q hq => h q (by simp [hq])) hs]
    unfold ovo
    cases o p.1 with
    | none => rfl
    | some B => exact execOp_put x hs a (some p.2.1) _ (fun d hd => by cases hd; exact h p (by simp))
theorem ov_wanted {o : Nat → Option Nat} {x : Oper} {ops : Array Oper} : ∀ {A : List AL} {a : Act}, (∀ p ∈ A, p.2.1 ∉ x.looksAt ops) → Region.wanted x (yielded ops (ov o A a).tmps) = Region.wanted x (yielded ops a.tmps)
  | [], a, _ => rfl
  | p :: A, a, h => by
    simp only [ov]
    rw [ov_wanted (fun q hq => h q (by simp [hq]))]
    unfold ovo
    cases o p.1 with
    | none => rfl
    | some B => exact wanted_put x a (some p.2.1) _ (fun d hd => by cases hd; exact h p (by simp))
theorem ov_congr {o o' : Nat → Option Nat} : ∀ {A : List AL} {a : Act}, (∀ p ∈ A, o p.1 = o' p.1) → ov o A a = ov o' A a
  | [], a, _ => rfl
  | p :: A, a, h => by
    simp only [ov]
    rw [h p (by simp)]
    exact ov_congr (fun q hq => h q (by simp [hq]))
theorem ov_set {o : Nat → Option Nat} {B : Nat} : ∀ {A : List AL} {a : Act} {p : AL}, Nd A → p ∈ A → o p.1 = none →
    (ov o A a).put (some p.2.1) (.pointer (some ⟨B, 0, none⟩)) = ov (fun j => if j = p.1 then some B else o j) A a
  | [], a, p, _, hp, _ => by cases hp
  | q :: A, a, p, hnd, hp, hn => by
    have hnd' := List.pairwise_cons.1 hnd
    simp only [ov]
    by_cases hqp : p = q
    · subst hqp
      rw [hn]
      simp only [if_true]
      rw [ov_congr (o := fun j => if j = p.1 then some B else o j) (o' := o) (fun r hr => by
        have := (hnd'.1 r hr).1
        simp [Ne.symm this])]
      simp only [ovo]
      rw [ov_put]
      intro r hr he
      exact (hnd'.1 r hr).2 (Option.some.inj he)
    · have hpA : p ∈ A := by
        rcases List.mem_cons.1 hp with h | h
        · exact absurd h hqp
        · exact h
      have hne : q.1 ≠ p.1 := (hnd'.1 p hpA).1
      simp only [hne, if_false]
      exact ov_set hnd'.2 hpA hn
theorem ov_none (A : List AL) (a : Act) : ov (fun _ => none) A a = a := by
  induction A with
  | nil => rfl
  | cons p A ih => exact ih
theorem ov_some {o : Nat → Option Nat} {A : List AL} {a : Act} (h : ∀ p ∈ A, o p.1 ≠ none) : ov (fun j => some ((o j).getD 0)) A a = ov o A a :=
  ov_congr (fun p hp => by
    have := h p hp
    cases ho : o p.1 with
    | none => exact absurd ho this
    | some B => rfl)

/-- Which blocks have been laid. -/
structure Own (A : List AL) (w0 w : World) (o : Nat → Option Nat) : Prop where
  blk : ∀ p ∈ A, ∀ B, o p.1 = some B → w0.heap.size ≤ B ∧ Blk w B p.2.2.1 p.2.2.2
  ne : ∀ p ∈ A, ∀ q ∈ A, p.1 ≠ q.1 → ∀ B, o p.1 = some B → o q.1 ≠ some B
/-- All are laid. -/
structure Owns (A : List AL) (n : Nat) (w : World) (o : Nat → Nat) : Prop where
  blk : ∀ p ∈ A, n ≤ o p.1 ∧ Blk w (o p.1) p.2.2.1 p.2.2.2
  ne : ∀ p ∈ A, ∀ q ∈ A, p.1 ≠ q.1 → o p.1 ≠ o q.1
theorem Nd.uniq : ∀ {A : List AL}, Nd A → ∀ {p q : AL}, p ∈ A → q ∈ A → p.1 = q.1 → p = q
  | [], _, _, _, hp, _, _ => by cases hp
  | r :: A, h, p, q, hp, hq, he => by
    have h' := List.pairwise_cons.1 h
    rcases List.mem_cons.1 hp with hp1 | hp1
    · rcases List.mem_cons.1 hq with hq1 | hq1
      · rw [hp1, hq1]
      · rw [hp1] at he; exact absurd he (h'.1 q hq1).1
    · rcases List.mem_cons.1 hq with hq1 | hq1
      · rw [hq1] at he; exact absurd he.symm (h'.1 p hp1).1
      · exact Nd.uniq h'.2 hp1 hq1 he
theorem Own.none (A : List AL) (w0 w : World) : Own A w0 w (fun _ => .none) := ⟨fun _ _ _ h => (by cases h), fun _ _ _ _ _ _ h => (by cases h)⟩
theorem Own.below {A : List AL} {w0 w w' : World} {o : Nat → Option Nat} (h : Own A w0 w o) (hb : Below w.heap.size w w') : Own A w0 w' o :=
  ⟨fun p hp B hB => ⟨(h.blk p hp B hB).1, (h.blk p hp B hB).2.below hb (h.blk p hp B hB).2.lt⟩, h.ne⟩
theorem Own.alloc {A : List AL} {w0 w : World} {o : Nat → Option Nat} {p : AL} (h : Own A w0 w o) (hnd : Nd A) (hp : p ∈ A) (hb : Below w0.heap.size w0 w) (hn : o p.1 = .none) :
    Own A w0 (w.alloc (.cells p.2.2.2.toArray p.2.2.1)) (fun j => if j = p.1 then some w.heap.size else o j) := by
  have huniq : ∀ q ∈ A, q.1 = p.1 → q = p := fun q hq he => hnd.uniq hq hp he
  constructor
  · intro q hq B hB
    by_cases he : q.1 = p.1
    · simp only [he, if_true, Option.some.injEq] at hB
      rw [huniq q hq he]
      subst hB
      exact ⟨hb.size, Blk.new w _ _⟩
    · simp only [he, if_false] at hB
      exact ⟨(h.blk q hq B hB).1, (h.blk q hq B hB).2.alloc _⟩
  · intro q hq r hr hqr B hB hB'
    by_cases he : q.1 = p.1
    · have hr' : r.1 ≠ p.1 := fun h => hqr (he.trans h.symm)
      simp only [he, if_true, Option.some.injEq] at hB
      simp only [hr', if_false] at hB'
      have := (h.blk r hr B hB').2.lt
      omega
    · simp only [he, if_false] at hB
      by_cases hr' : r.1 = p.1
      · simp only [hr', if_true, Option.some.injEq] at hB'
        have := (h.blk q hq B hB).2.lt
        omega
      · simp only [hr', if_false] at hB'
        exact h.ne q hq r hr hqr B hB hB'
theorem Own.all {A : List AL} {w0 w : World} {o : Nat → Option Nat} (h : Own A w0 w o) (hs : ∀ p ∈ A, o p.1 ≠ .none) : Owns A w0.heap.size w (fun j => (o j).getD 0) := by
  have key : ∀ p ∈ A, ∃ B, o p.1 = some B := fun p hp => Option.ne_none_iff_exists'.1 (hs p hp)
  constructor
  · intro p hp
    obtain ⟨B, hB⟩ := key p hp
    simp only [hB, Option.getD_some]
    exact h.blk p hp B hB
  · intro p hp q hq hpq
    obtain ⟨B, hB⟩ := key p hp
    obtain ⟨B', hB'⟩ := key q hq
    simp only [hB, hB', Option.getD_some]
    intro he
    subst he
    exact h.ne p hp q hq hpq B hB hB'

theorem Owns.two {i j : Nat} {d e T T' : Nat} {cs cs' : List Value} {n : Nat} {w : World} {o : Nat → Nat} (h : Owns [(i, d, T, cs), (j, e, T', cs')] n w o) (hne : i ≠ j) :
    ∃ B B', o i = B ∧ o j = B' ∧ n ≤ B ∧ n ≤ B' ∧ B ≠ B' ∧ Blk w B T cs ∧ Blk w B' T' cs' :=
  ⟨o i, o j, rfl, rfl, (h.blk (i, d, T, cs) (by simp)).1, (h.blk (j, e, T', cs') (by simp)).1, h.ne (i, d, T, cs) (by simp) (j, e, T', cs') (by simp) hne, (h.blk (i, d, T, cs) (by simp)).2, (h.blk (j, e, T', cs') (by simp)).2⟩
theorem Owns.one {i : Nat} {d T : Nat} {cs : List Value} {n : Nat} {w : World} {o : Nat → Nat} (h : Owns [(i, d, T, cs)] n w o) :
    ∃ B, o i = B ∧ n ≤ B ∧ Blk w B T cs :=
  ⟨o i, rfl, (h.blk (i, d, T, cs) (by simp)).1, (h.blk (i, d, T, cs) (by simp)).2⟩
/-- What is asked of a region, to be looked at by the kernel. -/
def alB (l : List Oper) (n : Nat) (A : List AL) : Bool :=
  A.all (fun p => match l[p.1]? with | some o => isAlloc o && o.dst == some p.2.1 && o.guard.isNone && o.after.isEmpty && decide (p.1 < n) | none => false) &&
  (List.range l.length).all (fun i => match l[i]? with
    | some o => (!isAlloc o || A.any (fun p => p.1 == i)) && (isAlloc o || decide (n ≤ i) || A.all (fun p => !(o.looksAt l.toArray).contains p.2.1 && o.dst != some p.2.1)) && (match o.op with | .select .. => false | _ => true)
    | none => true) &&
  decide (A.Pairwise (fun p q => p.1 ≠ q.1 ∧ p.2.1 ≠ q.2.1))
structure Chk (l : List Oper) (n : Nat) (A : List AL) : Prop where
  al : ∀ p ∈ A, ∃ o, l[p.1]? = some o ∧ isAlloc o = true ∧ o.dst = some p.2.1 ∧ o.guard = none ∧ o.after = #[] ∧ p.1 < n
  all : ∀ i o, l[i]? = some o → isAlloc o = true → ∃ p ∈ A, p.1 = i
  apart : ∀ i o, i < n → l[i]? = some o → isAlloc o = false → ∀ p ∈ A, p.2.1 ∉ o.looksAt l.toArray ∧ o.dst ≠ some p.2.1
  sel : ∀ (i : Nat) (o : Oper), l[i]? = some o → ∀ cs b, o.op ≠ .select cs b
  nd : Nd A
theorem chk_of {l : List Oper} {n : Nat} {A : List AL} (h : alB l n A = true) : Chk l n A := by
  simp only [alB, Bool.and_eq_true, decide_eq_true_eq, List.all_eq_true, List.mem_range] at h
  obtain ⟨⟨h1, h2⟩, h3⟩ := h
  have look : ∀ i o, l[i]? = some o → ((!isAlloc o || A.any (fun p => p.1 == i)) = true ∧ (isAlloc o || decide (n ≤ i) || A.all (fun p => !(o.looksAt l.toArray).contains p.2.1 && o.dst != some p.2.1)) = true) ∧ (match o.op with | .select .. => false | _ => true) = true := by
    intro i o ho
    have := h2 i (List.getElem?_eq_some_iff.1 ho).1
    simp only [ho, Bool.and_eq_true] at this
    exact this
  refine ⟨fun p hp => ?_, fun i o ho ha => ?_, fun i o hi ho ha p hp => ?_, fun i o ho cs b he => ?_, h3⟩
  · have := h1 p hp
    cases ho : l[p.1]? with
    | none => rw [ho] at this; cases this
    | some o =>
      simp only [ho, Bool.and_eq_true, decide_eq_true_eq, beq_iff_eq, Option.isNone_iff_eq_none, Array.isEmpty_iff] at this
      exact ⟨o, rfl, this.1.1.1.1, this.1.1.1.2, this.1.1.2, this.1.2, this.2⟩
  · have := (look i o ho).1.1
    simp only [ha, Bool.not_true, Bool.false_or, List.any_eq_true, beq_iff_eq] at this
    exact this
  · have := (look i o ho).1.2
    have hd : decide (n ≤ i) = false := by simpa using hi
    simp only [ha, hd, Bool.false_or, List.all_eq_true, Bool.and_eq_true, Bool.not_eq_true', bne_iff_ne] at this
    have := this p hp
    exact ⟨by simpa using this.1, this.2⟩
  · have := (look i o ho).2
    rw [he] at this
    cases this
theorem wanted_repl {l : List Oper} {n : Nat} {A : List AL} {x : Oper} {t : Array Value} (hA : Chk l n A) (h : ∀ p ∈ A, p.2.1 ∉ x.looksAt l.toArray) :
    Region.wanted x (yielded (l.map repl).toArray t) = Region.wanted x (yielded l.toArray t) := by
  unfold Region.wanted
  cases hg : x.guard with
  | none => rfl
  | some gw =>
    obtain ⟨g, want⟩ := gw
    have hy : yielded (l.map repl).toArray t g = yielded l.toArray t g := by
      unfold yielded
      simp only [List.getElem?_toArray, List.getElem?_map]
      cases ho : l[g]? with
      | none => rfl
      | some o =>
        cases ha : isAlloc o with
        | false => simp [repl_same ha]
        | true =>
          exfalso
          obtain ⟨p, hp, hpg⟩ := hA.all g o ho ha
          obtain ⟨y, hy, _, hd, _⟩ := hA.al p hp
          rw [hpg, ho] at hy
          have := Option.some.inj hy
          subst this
          exact h p hp (by simp [Oper.looksAt, hg, ho, hd])
    simp only [hy]

theorem ov_about {P : Program} {o : Nat → Option Nat} {x : Oper} {ops : Array Oper} {w : World} : ∀ {A : List AL} {a : Act}, (∀ p ∈ A, p.2.1 ∉ x.looksAt ops) → x.about P w (ov o A a).eval = x.about P w a.eval
  | [], a, _ => rfl
  | p :: A, a, h => by
    simp only [ov]
    rw [ov_about (fun q hq => h q (by simp [hq]))]
    unfold ovo
    cases o p.1 with
    | none => rfl
    | some B => exact about_put x w a (some p.2.1) _ (fun d hd => by cases hd; exact h p (by simp))
theorem repl_noDefer {l : List Oper} (h : ∀ (j : Nat) (o : Oper) c, l[j]? = some o → o.op ≠ .defer c) (j : Nat) (o : Oper) (c : Call) (ho : (l.map repl).toArray[j]? = some o) : o.op ≠ .defer c := by
  simp only [List.getElem?_toArray, List.getElem?_map] at ho
  cases hj : l[j]? with
  | none => rw [hj] at ho; cases ho
  | some x =>
    rw [hj] at ho
    have := Option.some.inj ho
    subst this
    cases ha : isAlloc x with
    | false => rw [repl_same ha]; exact h j x c hj
    | true =>
      unfold isAlloc at ha
      unfold repl
      split at ha
      · simp_all
      · cases ha

namespace Pa
variable {P : Program} {ops : Array Oper} {md : Region.Mode} {C : World → Prop}

/-- In every world of the class the operation comes to the value v, and to a world of the class. -/
def QAt (P : Program) (o : Oper) (a : Act) (C : World → Prop) (v : Value) : Prop :=
  ∀ (K : Act → World → Prop) (Q : Exit → Act → World → Prop) (w : World), C w → (∀ w', Inn C w w' → K (a.put o.dst v) w') → o.wp P a w K Q
def wpQ (P : Program) (ops : Array Oper) (C : World → Prop) (Q : Act → Prop) : List Oper → Act → Prop
  | [], a => Q a
  | o :: rest, a => if Region.wanted o (yielded ops a.tmps) then ∃ v, QAt P o a C v ∧ wpQ P ops C Q rest (a.put o.dst v) else wpQ P ops C Q rest (a.put o.dst undef)
def qOp (P : Program) (ops : Array Oper) (C : World → Prop) (i : Nat) (K : Act → Prop) (a : Act) : Prop :=
  match ops[i]? with
  | none => K a
  | some o => if Region.wanted o (yielded ops a.tmps) then ∃ v, QAt P o a C v ∧ K (a.put o.dst v) else K (a.put o.dst undef)
def Yields (P : Program) (ops : Array Oper) (C : World → Prop) (o : Oper) (v : Value) (a : Act) : Prop :=
  (Region.wanted o (yielded ops a.tmps) = true ∧ QAt P o a C v) ∨ (Region.wanted o (yielded ops a.tmps) = false ∧ v = undef)

theorem QAt.same {o : Oper} {v : Value} {a a' : Act} (h : QAt P o a C v) (hs : a'.tmps.size = a.tmps.size) (he : execOp a'.eval o = execOp a.eval o) : QAt P o a' C v := by
  intro K Q w hw hK
  have h1 := h (fun a1 w1 => a1 = a.put o.dst v ∧ Inn C w w1) (fun _ _ _ => False) w hw (fun w1 h1 => ⟨rfl, h1⟩)
  have key : ∀ u, a.put o.dst u = a.put o.dst v → a'.put o.dst u = a'.put o.dst v := by
    intro u hu
    cases hd : o.dst with
    | none => rfl
    | some d =>
      rw [hd] at hu
      simp only [Act.put] at hu ⊢
      by_cases hlt : d < a.tmps.size
      · have := congrArg (fun x : Act => x.tmps[d]?) hu
        simp [hlt] at this
        rw [this]
      · have hge : a'.tmps.size ≤ d := by rw [hs]; exact Nat.le_of_not_lt hlt
        rw [Array.setIfInBounds_eq_of_size_le hge, Array.setIfInBounds_eq_of_size_le hge]
  unfold Oper.wp at *
  rw [he]
  generalize (execOp a.eval o).run P w = r at *
  cases r with
  | ok n w' =>
    cases n <;> simp only [Oper.upon] at h1 ⊢
    case value u => obtain ⟨e1, e2⟩ := h1; rw [key u e1]; exact hK w' e2
    case skip => obtain ⟨e1, e2⟩ := h1; rw [key undef e1]; exact hK w' e2
    case defer d =>
      obtain ⟨e1, e2⟩ := h1
      have h2 := congrArg (fun x : Act => x.defers.length) e1
      have h3 : ∀ (b : Act) (dst : Option Tmp) (u : Value), (b.put dst u).defers = b.defers := by intro b dst u; cases dst <;> rfl
      simp [h3] at h2
    case enter f args =>
      refine h1.mono fun e w'' he => ?_
      cases e with
      | returned u => show K (a'.put o.dst u) w''; rw [key u he.1]; exact hK w'' he.2
      | panicked c => exact he.elim
      | outgrown => obtain ⟨_, _, hf⟩ := he; exact hf.elim
    case row row args =>
      refine h1.mono fun u w'' he => ?_
      rw [key u he.1]; exact hK w'' he.2
  | halt x w' =>
    cases x <;> simp only [Oper.upon] at h1

theorem qOp_mono {i : Nat} {a : Act} {K K' : Act → Prop} (h : ∀ a, K a → K' a) (hh : qOp P ops C i K a) : qOp P ops C i K' a := by
  unfold qOp at *
  cases ho : ops[i]? with
  | none => simp only [ho] at hh ⊢; exact h _ hh
  | some o =>
    simp only [ho] at hh ⊢
    by_cases hw : Region.wanted o (yielded ops a.tmps) = true
    · simp only [hw, if_true] at hh ⊢
      obtain ⟨v, h1, h2⟩ := hh
      exact ⟨v, h1, h _ h2⟩
    · simp only [hw] at hh ⊢
      exact h _ hh

theorem Yields.qOp {i : Nat} {o : Oper} {v : Value} {a : Act} (hi : ops[i]? = some o) (hy : Yields P ops C o v a) {K : Act → Prop} (h : K (a.put o.dst v)) : Pa.qOp P ops C i K a := by
  unfold Pa.qOp
  simp only [hi]
  rcases hy with ⟨hw, hv⟩ | ⟨hw, rfl⟩
  · simp only [hw, if_true]; exact ⟨v, hv, h⟩
  · simp only [hw, Bool.false_eq_true, if_false]; exact h

theorem yields_of_qOp {i : Nat} {o : Oper} {a : Act} {K : Act → Prop} (hi : ops[i]? = some o) (h : qOp P ops C i K a) : ∃ v, Yields P ops C o v a ∧ K (a.put o.dst v) := by
  unfold qOp at h
  simp only [hi] at h
  by_cases hw : Region.wanted o (yielded ops a.tmps) = true
  · simp only [hw, if_true] at h
    obtain ⟨v, h1, h2⟩ := h
    exact ⟨v, .inl ⟨hw, h1⟩, h2⟩
  · simp only [hw] at h
    exact ⟨undef, .inr ⟨by simpa using hw, rfl⟩, h⟩

theorem put_size (a : Act) (dst : Option Tmp) (v : Value) : (a.put dst v).tmps.size = a.tmps.size := by
  cases dst <;> simp [Act.put]

theorem qOp_put {j : Nat} {oi oj : Oper} {v : Value} (hj : ops[j]? = some oj) (hap : oi.apart ops oj = true)
    (hsi : ∀ cs b, oi.op ≠ .select cs b) (hsj : ∀ cs b, oj.op ≠ .select cs b) {K : Act → Prop} {a : Act}
    (hy : Yields P ops C oi v a) (h : qOp P ops C j K (a.put oi.dst v)) :
    qOp P ops C j (fun a' => Yields P ops C oi v a' ∧ K (a'.put oi.dst v)) a := by
  obtain ⟨h1, h2, h3⟩ := Oper.apart_spec hap
  have keep : ∀ (a : Act), Yields P ops C oi v a → ∀ u, Yields P ops C oi v (a.put oj.dst u) := fun a hy u => by
    rcases hy with ⟨hw, hq⟩ | ⟨hw, hq⟩
    · exact .inl ⟨by rw [wanted_put oi a oj.dst u h3]; exact hw, hq.same (put_size _ _ _) (execOp_put oi hsi a oj.dst u h3)⟩
    · exact .inr ⟨by rw [wanted_put oi a oj.dst u h3]; exact hw, hq⟩
  obtain ⟨u, hu, hK⟩ := yields_of_qOp hj h
  have hu' : Yields P ops C oj u a := by
    rcases hu with ⟨hw, hq⟩ | ⟨hw, hq⟩
    · exact .inl ⟨by rw [wanted_put oj a oi.dst v h1] at hw; exact hw, hq.same (put_size _ _ _).symm (execOp_put oj hsj a oi.dst v h1).symm⟩
    · exact .inr ⟨by rw [wanted_put oj a oi.dst v h1] at hw; exact hw, hq⟩
  exact hu'.qOp hj ⟨keep a hy u, by rw [← Act.put_comm a v u h2]; exact hK⟩

/-- Whatever order the head is taken in. -/
def wpAnyL (P : Program) (md : Region.Mode) (ops : Array Oper) (C : World → Prop) (n : Nat) (L : Array Bool → Act → Prop) : Nat → Array Bool → Act → Prop
  | 0, listed, a => L listed a
  | f + 1, listed, a =>
    Region.ready md ops listed ≠ [] ∧ ∀ i ∈ Region.ready md ops listed, i < n ∧ qOp P ops C i (wpAnyL P md ops C n L f (listed.setIfInBounds i true)) a

theorem wpAnyL_first {n i : Nat} {oi : Oper} {v : Value} {L : Array Bool → Act → Prop} (hi : ops[i]? = some oi) (hsel : ∀ (j : Nat) (o : Oper) cs b, ops[j]? = some o → o.op ≠ .select cs b)
    (hs : Region.sinkB md ops n = true) (hc : Region.chainB md ops n = true) (hn : n < ops.size) (hin : i < n)
    (hdone : ∀ listed a, L listed a → ∀ j ∈ Region.ready md ops listed, n ≤ j) :
    ∀ (f : Nat) (listed : Array Bool) (a : Act), HeadInv md ops n listed →
      (∀ j oj, ops[j]? = some oj → j ≠ i → listed.getD j true = false → (∀ e ∈ oj.after, Region.binds md e = true → e.on ≠ i) → oi.apart ops oj = true) →
      i ∈ Region.ready md ops listed → Yields P ops C oi v a →
      wpAnyL P md ops C n L f (listed.setIfInBounds i true) (a.put oi.dst v) → wpAnyL P md ops C n L (f + 1) listed a := by
  intro f
  induction f with
  | zero =>
    intro listed a inv _ hr hy H
    have hun := (mem_ready.1 hr).1
    refine ⟨fun h => (by rw [h] at hr; cases hr), fun j hj => ?_⟩
    have hjn : j < n := by
      rcases Nat.lt_or_ge j n with h | h
      · exact h
      · exact absurd hj (tail_waits hs hc hn inv _ i rfl hin hun j h)
    refine ⟨hjn, ?_⟩
    by_cases hji : j = i
    · subst hji; exact hy.qOp hi H
    · have := hdone _ _ H j (ready_mono hj hji)
      omega
  | succ f ih =>
    intro listed a inv hfree hr hy H
    have hun := (mem_ready.1 hr).1
    refine ⟨fun h => (by rw [h] at hr; cases hr), fun j hj => ?_⟩
    have hjn : j < n := by
      rcases Nat.lt_or_ge j n with h | h
      · exact h
      · exact absurd hj (tail_waits hs hc hn inv _ i rfl hin hun j h)
    refine ⟨hjn, ?_⟩
    by_cases hji : j = i
    · subst hji; exact hy.qOp hi H
    · have h1 := (H.2 j (ready_mono hj hji)).2
      obtain ⟨hjun, oj, hoj, hall⟩ := mem_ready.1 hj
      have hnot : ∀ e ∈ oj.after, Region.binds md e = true → e.on ≠ i := fun e he hb heq => by
        have h1 := hall e he hb
        rw [heq, getD_both hun] at h1
        cases h1
      have h2 := qOp_put hoj (hfree j oj hoj hji hjun hnot) (fun cs b => hsel i oi cs b hi) (fun cs b => hsel j oj cs b hoj) hy h1
      have hfree' : ∀ k ok, ops[k]? = some ok → k ≠ i → (listed.setIfInBounds j true).getD k true = false →
          (∀ e ∈ ok.after, Region.binds md e = true → e.on ≠ i) → oi.apart ops ok = true := fun k ok hk hki hun hno => by
        refine hfree k ok hk hki ?_ hno
        by_cases hjk : j = k
        · subst hjk; exact hjun
        · rw [getD_set_ne true hjk] at hun; exact hun
      refine qOp_mono (fun a' h3 => ih (listed.setIfInBounds j true) a' (inv.set hj hjn) hfree' (ready_mono hr (Ne.symm hji)) h3.1 ?_) h2
      rw [Array.setIfInBounds_comm _ _ hji]
      exact h3.2

theorem wpAnyL_lex {n g : Nat} {Lq : Act → Prop} (hsel : Region.noSelect ops = true) (hs : Region.sinkB md ops n = true) (hc : Region.chainB md ops n = true) (hn : n < ops.size) :
    ∀ (l : List Oper) (k : Nat) (listed : Array Bool) (a : Act), (∀ j, j < l.length → l[j]? = ops[k + j]?) → k + l.length = n → HeadInv md ops n listed →
    Region.lexHead md ops g l.length k listed = true → wpQ P ops C Lq l a →
    wpAnyL P md ops C n (fun listed' a' => Region.seqB md ops g n listed' = true ∧ Lq a') l.length listed a
  | [], k, listed, a, _, hk, _, hB, h => by
    have : k = n := by simpa using hk
    subst this
    exact ⟨by simpa [Region.lexHead] using hB, h⟩
  | o :: l, k, listed, a, hl, hk, inv, hB, h => by
    have h0 : ops[k]? = some o := by simpa using (hl 0 (by simp)).symm
    simp only [List.length_cons, Region.lexHead, Bool.and_eq_true] at hB
    obtain ⟨⟨hr, hf⟩, hB'⟩ := hB
    have hkn : k < n := by simp only [List.length_cons] at hk; omega
    have hr' : k ∈ Region.ready md ops listed := by simpa using hr
    have hst : qOp P ops C k (wpQ P ops C Lq l) a := by unfold qOp; simp only [h0]; exact h
    obtain ⟨v, hy, hK⟩ := yields_of_qOp h0 hst
    exact wpAnyL_first h0 (Region.noSelect_spec hsel) hs hc hn hkn (fun listed' a' hL => seqB_ready hL.1) l.length listed a inv (Region.free_spec h0 hf) hr' hy
      (wpAnyL_lex hsel hs hc hn l (k + 1) _ _ (fun j hj => by have := hl (j + 1) (by simp; omega); simpa [Nat.add_assoc, Nat.add_comm 1 j] using this) (by simp only [List.length_cons] at hk; omega) (inv.set hr' hkn) hB' hK)


theorem ready_repl (l : List Oper) (listed : Array Bool) : Region.ready md (l.map repl).toArray listed = Region.ready md l.toArray listed := by
  unfold Region.ready
  simp only [List.size_toArray, List.length_map]
  apply List.filter_congr
  intro i _
  simp only [List.getElem?_toArray, List.getElem?_map, Option.map_map]
  congr 2
  cases l[i]? with
  | none => rfl
  | some o => simp [repl_after]
theorem seqB_repl (l : List Oper) : ∀ (g k : Nat) (listed : Array Bool), Region.seqB md (l.map repl).toArray g k listed = Region.seqB md l.toArray g k listed
  | 0, k, listed => by simp only [Region.seqB, ready_repl]
  | g + 1, k, listed => by simp only [Region.seqB, ready_repl, seqB_repl l g]

/-- What an allocation does. -/
def AllocAt (P : Program) (o : Oper) (p : AL) : Prop := ∀ (a : Act) (w : World) (K : Act → World → Prop) (Q : Exit → Act → World → Prop), K (a.put (some p.2.1) (.pointer (some ⟨w.heap.size, 0, none⟩))) (w.alloc (.cells p.2.2.2.toArray p.2.2.1)) → o.wp P a w K Q

theorem sim {l : List Oper} {n g : Nat} {A : List AL} {w0 : World} {L : Array Bool → Act → Prop} {Q' : Exit → Act → World → Prop} (hA : Chk l n A)
    (hAl : ∀ p ∈ A, ∀ o, l[p.1]? = some o → AllocAt P o p)
    (hdone : ∀ listed a, L listed a → ∀ j ∈ Region.ready md l.toArray listed, n ≤ j)
    (hL : ∀ listed a o w', Below w0.heap.size w0 w' → Own A w0 w' o → (∀ p ∈ A, o p.1 ≠ none) → L listed a → wpAny P md l.toArray Q' g listed (ov o A a) w') :
    ∀ (f : Nat) (listed : Array Bool) (a : Act) (o : Nat → Option Nat) (w' : World), listed.size = l.length → Below w0.heap.size w0 w' → Own A w0 w' o →
      (∀ p ∈ A, listed.getD p.1 true = false → o p.1 = none) → (∀ p ∈ A, listed.getD p.1 true = true → o p.1 ≠ none) →
      wpAnyL P md (l.map repl).toArray (fun w' => Below w0.heap.size w0 w') n L f listed a → wpAny P md l.toArray Q' (f + g) listed (ov o A a) w'
  | 0, listed, a, o, w', hsz, hb, ho, h1, h2, h => by
    rw [Nat.zero_add]
    refine hL listed a o w' hb ho (fun p hp => h2 p hp ?_) h
    obtain ⟨x, hx, hal, hd, hg, haf, hn⟩ := hA.al p hp
    cases hl : listed.getD p.1 true with
    | true => rfl
    | false =>
      have := hdone listed a h p.1 (mem_ready.2 ⟨hl, x, by simpa using hx, fun e he => (by rw [haf] at he; simp at he)⟩)
      omega
  | f + 1, listed, a, o, w', hsz, hb, ho, h1, h2, h => by
    rw [show f + 1 + g = (f + g) + 1 by omega]
    have h0 : Region.ready md l.toArray listed ≠ [] := by rw [← ready_repl]; exact h.1
    refine ⟨fun h => absurd h h0, fun i hi => ?_⟩
    obtain ⟨hin, hq⟩ := h.2 i (by rw [ready_repl]; exact hi)
    obtain ⟨hun, x, hx, _⟩ := mem_ready.1 hi
    have hxl : l[i]? = some x := by simpa using hx
    have hil : i < l.length := (List.getElem?_eq_some_iff.1 hxl).1
    have hsz' : (listed.setIfInBounds i true).size = l.length := by simpa using hsz
    have hset : (listed.setIfInBounds i true).getD i true = true := by rw [Array.getD_eq_getD_getElem?]; simp [hsz, hil]
    unfold wpOp
    simp only [hx]
    unfold qOp at hq
    have hx' : (l.map repl).toArray[i]? = some (repl x) := by simp [hxl]
    simp only [hx'] at hq
    cases hal : isAlloc x with
    | true =>
      obtain ⟨p, hp, hpi⟩ := hA.all i x hxl hal
      obtain ⟨y, hy, _, hd, hg, haf, hn⟩ := hA.al p hp
      rw [hpi] at hy
      have hxy : x = y := by rw [hxl] at hy; exact Option.some.inj hy
      have hw1 : Region.wanted x (yielded l.toArray (ov o A a).tmps) = true := by unfold Region.wanted; rw [hxy, hg]
      have hw2 : Region.wanted (repl x) (yielded (l.map repl).toArray a.tmps) = true := by unfold Region.wanted; rw [repl_guard, hxy, hg]
      simp only [hw1, if_true]
      simp only [hw2, if_true] at hq
      obtain ⟨v, _, hK⟩ := hq
      rw [repl_dst hal] at hK
      refine .inl ?_
      refine hAl p hp x (by rw [hpi]; exact hxl) _ _ _ _ ?_
      have hnone : o p.1 = none := h1 p hp (by rw [hpi]; exact hun)
      rw [ov_set hA.nd hp hnone]
      refine sim hA hAl hdone hL f _ _ _ _ hsz' (Below.alloc hb hb.size _) (ho.alloc hA.nd hp hb hnone) ?_ ?_ hK
      · intro q hq hl
        by_cases hqi : q.1 = i
        · rw [hqi, hset] at hl; cases hl
        · rw [getD_set_ne true (Ne.symm hqi)] at hl
          simp only [hpi, hqi, if_false]
          exact h1 q hq hl
      · intro q hq hl
        by_cases hqi : q.1 = i
        · simp [hpi, hqi]
        · rw [getD_set_ne true (Ne.symm hqi)] at hl
          simp only [hpi, hqi, if_false]
          exact h2 q hq hl
    | false =>
      rw [repl_same hal] at hq
      have hap := hA.apart i x hin hxl hal
      have hw1 : Region.wanted x (yielded (l.map repl).toArray a.tmps) = Region.wanted x (yielded l.toArray (ov o A a).tmps) := by
        rw [ov_wanted (fun p hp => (hap p hp).1), wanted_repl hA (fun p hp => (hap p hp).1)]
      rw [hw1] at hq
      have hne : ∀ p ∈ A, p.1 ≠ i := by
        intro p hp he
        obtain ⟨y, hy, hya, _⟩ := hA.al p hp
        rw [he, hxl] at hy
        have := Option.some.inj hy
        subst this
        rw [hal] at hya; cases hya
      have hl1 : ∀ p ∈ A, (listed.setIfInBounds i true).getD p.1 true = false → o p.1 = none := fun p hp hl => by
        rw [getD_set_ne true (Ne.symm (hne p hp))] at hl; exact h1 p hp hl
      have hl2 : ∀ p ∈ A, (listed.setIfInBounds i true).getD p.1 true = true → o p.1 ≠ none := fun p hp hl => by
        rw [getD_set_ne true (Ne.symm (hne p hp))] at hl; exact h2 p hp hl
      by_cases hw : Region.wanted x (yielded l.toArray (ov o A a).tmps) = true
      · simp only [hw, if_true] at hq ⊢
        obtain ⟨v, hv, hK⟩ := hq
        have hv' : QAt P x (ov o A a) (fun w' => Below w0.heap.size w0 w') v := hv.same (ov_size o A a) (ov_exec (fun p hp => (hap p hp).1) (hA.sel i x hxl))
        refine .inl ?_
        refine hv' _ _ _ hb fun w2 hw2 => ?_
        rw [← ov_put (fun p hp => (hap p hp).2)]
        exact sim hA hAl hdone hL f _ _ _ _ hsz' hw2.1 (ho.below hw2.2) hl1 hl2 hK
      · simp only [hw] at hq ⊢
        skip
        rw [← ov_put (fun p hp => (hap p hp).2)]
        exact sim hA hAl hdone hL f _ _ _ _ hsz' hb ho hl1 hl2 hq

/-- A region that draws its order: n operations, each of which comes to one value, or allocates; then a tail in one order. -/
theorem wp_region_qa {id : Nat} {Q : Exit → Act → World → Prop} {a : Act} {w : World} {l l' : List Oper} (n : Nat) (A : List AL) (hl' : l.map repl = l') (hm : P.follows .mixedOrders = true) (hB : Region.lexTailB .any l'.toArray n = true) (hA : alB l n A = true)
    (hAl : ∀ p ∈ A, ∀ o, l[p.1]? = some o → AllocAt P o p)
    (h : ∀ C : World → Prop, Hid (∀ w', C w' → Below w.heap.size w.drew w') → Hid (∀ w1 w2, C w1 → Below w1.heap.size w1 w2 → Inn C w1 w2) →
      wpQ P l'.toArray C (fun a' => ∀ w' (o : Nat → Nat), Below w.heap.size w.drew w' → Owns A w.heap.size w' o → wpList P l.toArray Q (l.drop n) (ov (fun j => some (o j)) A a') w') (l'.take n) a) : (Code.region id l.toArray true).wp P Q a w := by
  subst hl'
  have hchk := chk_of hA
  simp only [Region.lexTailB, Bool.and_eq_true, decide_eq_true_eq] at hB
  obtain ⟨⟨⟨⟨hsel, hn⟩, hs⟩, hc⟩, hlex⟩ := hB
  have hn' : n < l.length := by simpa using hn
  have htl : ((l.map repl).take n).length = n := by simp; omega
  have hdl : (l.drop n).length = l.toArray.size - n := by simp
  have inv0 : HeadInv .any (l.map repl).toArray n (Array.replicate (l.map repl).toArray.size false) :=
    ⟨by simp, fun j oj _ hl => (by rw [getD_replicate_false] at hl; cases hl), fun t _ ht => getD_in (by simpa using ht) (getD_replicate_false _ _)⟩
  have hq := h (fun w' => Below w.drew.heap.size w.drew w') (fun _ h => h) (fun _ _ h k => ⟨h.trans (k.mono h.size), k⟩)
  have H := wpAnyL_lex (P := P) (C := fun w' => Below w.drew.heap.size w.drew w') (md := .any) (g := (l.map repl).toArray.size - n) hsel hs hc hn ((l.map repl).take n) 0 _ a (fun j hj => by
    have hj' : j < n := by rw [htl] at hj; exact hj
    simp [hj']) (by simpa using htl) inv0 (by rw [htl]; exact hlex) hq
  refine wp_region_any hm ?_
  have := sim (L := fun listed' a' => Region.seqB .any (l.map repl).toArray ((l.map repl).toArray.size - n) n listed' = true ∧ ∀ w' (o : Nat → Nat), Below w.heap.size w.drew w' → Owns A w.heap.size w' o → wpList P l.toArray Q (l.drop n) (ov (fun j => some (o j)) A a') w') (w0 := w.drew) (Q' := Q) (g := l.toArray.size - n) (md := .any) hchk hAl (fun listed a' hL => by
      have := seqB_ready hL.1
      rwa [ready_repl] at this) (fun listed a' o w' hb ho hs hL => by
    have hgl : (l.map repl).toArray.size - n = l.toArray.size - n := by simp
    have hlast := hL.2 w' (fun j => (o j).getD 0) hb (ho.all hs)
    rw [ov_some hs] at hlast
    have hsq := hL.1
    rw [hgl, seqB_repl] at hsq
    have := wpAny_of_seq (md := .any) (Q' := Q) (l.drop n) n listed (ov o A a') w' (fun j => by simp [List.getElem?_drop]) (by rw [hdl]; exact hsq) hlast
    rwa [hdl] at this) _ (Array.replicate l.toArray.size false) a (fun _ => none) w.drew (by simp) (Below.refl _ _) (Own.none _ _ _) (fun _ _ _ => rfl) (fun p hp hl => by
      obtain ⟨x, hx, _⟩ := hchk.al p hp
      have hlt : p.1 < (Array.replicate l.toArray.size false).size := by simpa using (List.getElem?_eq_some_iff.1 hx).1
      rw [getD_in hlt (getD_replicate_false _ _)] at hl; cases hl) (by
      have : Array.replicate (l.map repl).toArray.size false = Array.replicate l.toArray.size false := by simp
      rw [← this]; exact H)
  rw [htl, show n + (l.toArray.size - n) = l.toArray.size by simp; omega, ov_none] at this
  exact this

theorem wpQ_run {o : Oper} {rest : List Oper} {a : Act} {Q : Act → Prop} (hg : Region.wanted o (yielded ops a.tmps) = true) (h : ∃ v, QAt P o a C v ∧ wpQ P ops C Q rest (a.put o.dst v)) : wpQ P ops C Q (o :: rest) a := by
  unfold wpQ; simp only [hg, if_true]; exact h
theorem wpQ_skip {o : Oper} {rest : List Oper} {a : Act} {Q : Act → Prop} (hg : Region.wanted o (yielded ops a.tmps) = false) (h : wpQ P ops C Q rest (a.put o.dst undef)) : wpQ P ops C Q (o :: rest) a := by
  unfold wpQ; simp only [hg, Bool.false_eq_true, if_false]; exact h
theorem wpQ_nil {a : Act} {Q : Act → Prop} (h : Q a) : wpQ P ops C Q [] a := h
end Pa

namespace Fa
variable {F : Fence} {n₁ : Nat} {P : Program} {ops : Array Oper} {md : Region.Mode} {C : World → Prop}

/-- In every world of the class the operation comes to the value v, and to a world of the class. -/
def QAt (F : Fence) (n₁ : Nat) (P : Program) (o : Oper) (a : Act) (C : World → Prop) (v : Value) : Prop :=
  ∀ (K : Act → World → Prop) (Q : Exit → Act → World → Prop) (w : World), C w → (∀ w', Inn C w w' → K (a.put o.dst v) w') → o.wpIn F n₁ P a w K Q
def wpQ (F : Fence) (n₁ : Nat) (P : Program) (ops : Array Oper) (C : World → Prop) (Q : Act → Prop) : List Oper → Act → Prop
  | [], a => Q a
  | o :: rest, a => if Region.wanted o (yielded ops a.tmps) then ∃ v, QAt F n₁ P o a C v ∧ wpQ F n₁ P ops C Q rest (a.put o.dst v) else wpQ F n₁ P ops C Q rest (a.put o.dst undef)
def qOp (F : Fence) (n₁ : Nat) (P : Program) (ops : Array Oper) (C : World → Prop) (i : Nat) (K : Act → Prop) (a : Act) : Prop :=
  match ops[i]? with
  | none => K a
  | some o => if Region.wanted o (yielded ops a.tmps) then ∃ v, QAt F n₁ P o a C v ∧ K (a.put o.dst v) else K (a.put o.dst undef)
def Yields (F : Fence) (n₁ : Nat) (P : Program) (ops : Array Oper) (C : World → Prop) (o : Oper) (v : Value) (a : Act) : Prop :=
  (Region.wanted o (yielded ops a.tmps) = true ∧ QAt F n₁ P o a C v) ∨ (Region.wanted o (yielded ops a.tmps) = false ∧ v = undef)

theorem QAt.same {o : Oper} {v : Value} {a a' : Act} (h : QAt F n₁ P o a C v) (hs : a'.tmps.size = a.tmps.size) (hd : ∀ c, o.op ≠ .defer c) (he : execOp a'.eval o = execOp a.eval o) (hab : ∀ w, o.about P w a'.eval = o.about P w a.eval) : QAt F n₁ P o a' C v := by
  intro K Q w hw hK
  have h1 := h (fun a1 w1 => a1 = a.put o.dst v ∧ Inn C w w1) (fun _ _ _ => False) w hw (fun w1 h1 => ⟨rfl, h1⟩)
  have key : ∀ u, a.put o.dst u = a.put o.dst v → a'.put o.dst u = a'.put o.dst v := by
    intro u hu
    cases hd : o.dst with
    | none => rfl
    | some d =>
      rw [hd] at hu
      simp only [Act.put] at hu ⊢
      by_cases hlt : d < a.tmps.size
      · have := congrArg (fun x : Act => x.tmps[d]?) hu
        simp [hlt] at this
        rw [this]
      · have hge : a'.tmps.size ≤ d := by rw [hs]; exact Nat.le_of_not_lt hlt
        rw [Array.setIfInBounds_eq_of_size_le hge, Array.setIfInBounds_eq_of_size_le hge]
  unfold Oper.wpIn at *
  rw [Oper.semAt_eq _ _ _ hd] at *
  rw [he, hab]
  refine ⟨h1.1, ?_⟩
  replace h1 := h1.2
  generalize (execOp a.eval o).run P w = r at *
  cases r with
  | ok n w' =>
    cases n <;> simp only [Oper.uponIn] at h1 ⊢
    case value u => obtain ⟨e1, e2⟩ := h1; rw [key u e1]; exact hK w' e2
    case skip => obtain ⟨e1, e2⟩ := h1; rw [key undef e1]; exact hK w' e2
    case defer d =>
      obtain ⟨e1, e2⟩ := h1
      have h2 := congrArg (fun x : Act => x.defers.length) e1
      have h3 : ∀ (b : Act) (dst : Option Tmp) (u : Value), (b.put dst u).defers = b.defers := by intro b dst u; cases dst <;> rfl
      simp [h3] at h2
    case enter f args =>
      refine ⟨h1.1, ?_⟩; refine h1.2.mono fun e w'' he => ?_
      cases e with
      | returned u => show K (a'.put o.dst u) w''; rw [key u he.1]; exact hK w'' he.2
      | panicked c => exact he.elim
      | outgrown => obtain ⟨_, _, hf⟩ := he; exact hf.elim
    case row row args =>
      refine ⟨h1.1, ?_⟩; refine h1.2.mono fun u w'' he => ?_
      rw [key u he.1]; exact hK w'' he.2
    case round l f tmps assign body =>
      refine ⟨h1.1, ?_⟩; refine h1.2.mono fun e w'' he => ?_
      cases e with
      | returned u => show K (a'.put o.dst u) w''; rw [key u he.1]; exact hK w'' he.2
      | panicked c => exact he.elim
      | outgrown => obtain ⟨_, _, hf⟩ := he; exact hf.elim
  | halt x w' =>
    cases x <;> simp only [Oper.uponIn] at h1

theorem qOp_mono {i : Nat} {a : Act} {K K' : Act → Prop} (h : ∀ a, K a → K' a) (hh : qOp F n₁ P ops C i K a) : qOp F n₁ P ops C i K' a := by
  unfold qOp at *
  cases ho : ops[i]? with
  | none => simp only [ho] at hh ⊢; exact h _ hh
  | some o =>
    simp only [ho] at hh ⊢
    by_cases hw : Region.wanted o (yielded ops a.tmps) = true
    · simp only [hw, if_true] at hh ⊢
      obtain ⟨v, h1, h2⟩ := hh
      exact ⟨v, h1, h _ h2⟩
    · simp only [hw] at hh ⊢
      exact h _ hh

theorem Yields.qOp {i : Nat} {o : Oper} {v : Value} {a : Act} (hi : ops[i]? = some o) (hy : Yields F n₁ P ops C o v a) {K : Act → Prop} (h : K (a.put o.dst v)) : Fa.qOp F n₁ P ops C i K a := by
  unfold Fa.qOp
  simp only [hi]
  rcases hy with ⟨hw, hv⟩ | ⟨hw, rfl⟩
  · simp only [hw, if_true]; exact ⟨v, hv, h⟩
  · simp only [hw, Bool.false_eq_true, if_false]; exact h

theorem yields_of_qOp {i : Nat} {o : Oper} {a : Act} {K : Act → Prop} (hi : ops[i]? = some o) (h : qOp F n₁ P ops C i K a) : ∃ v, Yields F n₁ P ops C o v a ∧ K (a.put o.dst v) := by
  unfold qOp at h
  simp only [hi] at h
  by_cases hw : Region.wanted o (yielded ops a.tmps) = true
  · simp only [hw, if_true] at h
    obtain ⟨v, h1, h2⟩ := h
    exact ⟨v, .inl ⟨hw, h1⟩, h2⟩
  · simp only [hw] at h
    exact ⟨undef, .inr ⟨by simpa using hw, rfl⟩, h⟩

theorem put_size (a : Act) (dst : Option Tmp) (v : Value) : (a.put dst v).tmps.size = a.tmps.size := by
  cases dst <;> simp [Act.put]

theorem qOp_put {j : Nat} {oi oj : Oper} {v : Value} (hj : ops[j]? = some oj) (hap : oi.apart ops oj = true)
    (hsi : ∀ cs b, oi.op ≠ .select cs b) (hsj : ∀ cs b, oj.op ≠ .select cs b) (hdi : ∀ c, oi.op ≠ .defer c) (hdj : ∀ c, oj.op ≠ .defer c) {K : Act → Prop} {a : Act}
    (hy : Yields F n₁ P ops C oi v a) (h : qOp F n₁ P ops C j K (a.put oi.dst v)) :
    qOp F n₁ P ops C j (fun a' => Yields F n₁ P ops C oi v a' ∧ K (a'.put oi.dst v)) a := by
  obtain ⟨h1, h2, h3⟩ := Oper.apart_spec hap
  have keep : ∀ (a : Act), Yields F n₁ P ops C oi v a → ∀ u, Yields F n₁ P ops C oi v (a.put oj.dst u) := fun a hy u => by
    rcases hy with ⟨hw, hq⟩ | ⟨hw, hq⟩
    · exact .inl ⟨by rw [wanted_put oi a oj.dst u h3]; exact hw, hq.same (put_size _ _ _) hdi (execOp_put oi hsi a oj.dst u h3) (fun w => about_put oi w a oj.dst u h3)⟩
    · exact .inr ⟨by rw [wanted_put oi a oj.dst u h3]; exact hw, hq⟩
  obtain ⟨u, hu, hK⟩ := yields_of_qOp hj h
  have hu' : Yields F n₁ P ops C oj u a := by
    rcases hu with ⟨hw, hq⟩ | ⟨hw, hq⟩
    · exact .inl ⟨by rw [wanted_put oj a oi.dst v h1] at hw; exact hw, hq.same (put_size _ _ _).symm hdj (execOp_put oj hsj a oi.dst v h1).symm (fun w => (about_put oj w a oi.dst v h1).symm)⟩
    · exact .inr ⟨by rw [wanted_put oj a oi.dst v h1] at hw; exact hw, hq⟩
  exact hu'.qOp hj ⟨keep a hy u, by rw [← Act.put_comm a v u h2]; exact hK⟩

/-- Whatever order the head is taken in. -/
def wpAnyL (F : Fence) (n₁ : Nat) (P : Program) (md : Region.Mode) (ops : Array Oper) (C : World → Prop) (n : Nat) (L : Array Bool → Act → Prop) : Nat → Array Bool → Act → Prop
  | 0, listed, a => L listed a
  | f + 1, listed, a =>
    Region.ready md ops listed ≠ [] ∧ ∀ i ∈ Region.ready md ops listed, i < n ∧ qOp F n₁ P ops C i (wpAnyL F n₁ P md ops C n L f (listed.setIfInBounds i true)) a

theorem wpAnyL_first {n i : Nat} {oi : Oper} {v : Value} {L : Array Bool → Act → Prop} (hi : ops[i]? = some oi) (hsel : ∀ (j : Nat) (o : Oper) cs b, ops[j]? = some o → o.op ≠ .select cs b) (hdef : ∀ (j : Nat) (o : Oper) c, ops[j]? = some o → o.op ≠ .defer c)
    (hs : Region.sinkB md ops n = true) (hc : Region.chainB md ops n = true) (hn : n < ops.size) (hin : i < n)
    (hdone : ∀ listed a, L listed a → ∀ j ∈ Region.ready md ops listed, n ≤ j) :
    ∀ (f : Nat) (listed : Array Bool) (a : Act), HeadInv md ops n listed →
      (∀ j oj, ops[j]? = some oj → j ≠ i → listed.getD j true = false → (∀ e ∈ oj.after, Region.binds md e = true → e.on ≠ i) → oi.apart ops oj = true) →
      i ∈ Region.ready md ops listed → Yields F n₁ P ops C oi v a →
      wpAnyL F n₁ P md ops C n L f (listed.setIfInBounds i true) (a.put oi.dst v) → wpAnyL F n₁ P md ops C n L (f + 1) listed a := by
  intro f
  induction f with
  | zero =>
    intro listed a inv _ hr hy H
    have hun := (mem_ready.1 hr).1
    refine ⟨fun h => (by rw [h] at hr; cases hr), fun j hj => ?_⟩
    have hjn : j < n := by
      rcases Nat.lt_or_ge j n with h | h
      · exact h
      · exact absurd hj (tail_waits hs hc hn inv _ i rfl hin hun j h)
    refine ⟨hjn, ?_⟩
    by_cases hji : j = i
    · subst hji; exact hy.qOp hi H
    · have := hdone _ _ H j (ready_mono hj hji)
      omega
  | succ f ih =>
    intro listed a inv hfree hr hy H
    have hun := (mem_ready.1 hr).1
    refine ⟨fun h => (by rw [h] at hr; cases hr), fun j hj => ?_⟩
    have hjn : j < n := by
      rcases Nat.lt_or_ge j n with h | h
      · exact h
      · exact absurd hj (tail_waits hs hc hn inv _ i rfl hin hun j h)
    refine ⟨hjn, ?_⟩
    by_cases hji : j = i
    · subst hji; exact hy.qOp hi H
    · have h1 := (H.2 j (ready_mono hj hji)).2
      obtain ⟨hjun, oj, hoj, hall⟩ := mem_ready.1 hj
      have hnot : ∀ e ∈ oj.after, Region.binds md e = true → e.on ≠ i := fun e he hb heq => by
        have h1 := hall e he hb
        rw [heq, getD_both hun] at h1
        cases h1
      have h2 := qOp_put hoj (hfree j oj hoj hji hjun hnot) (fun cs b => hsel i oi cs b hi) (fun cs b => hsel j oj cs b hoj) (fun c => hdef i oi c hi) (fun c => hdef j oj c hoj) hy h1
      have hfree' : ∀ k ok, ops[k]? = some ok → k ≠ i → (listed.setIfInBounds j true).getD k true = false →
          (∀ e ∈ ok.after, Region.binds md e = true → e.on ≠ i) → oi.apart ops ok = true := fun k ok hk hki hun hno => by
        refine hfree k ok hk hki ?_ hno
        by_cases hjk : j = k
        · subst hjk; exact hjun
        · rw [getD_set_ne true hjk] at hun; exact hun
      refine qOp_mono (fun a' h3 => ih (listed.setIfInBounds j true) a' (inv.set hj hjn) hfree' (ready_mono hr (Ne.symm hji)) h3.1 ?_) h2
      rw [Array.setIfInBounds_comm _ _ hji]
      exact h3.2

theorem wpAnyL_lex {n g : Nat} {Lq : Act → Prop} (hsel : Region.noSelect ops = true) (hdef : ∀ (j : Nat) (o : Oper) c, ops[j]? = some o → o.op ≠ .defer c) (hs : Region.sinkB md ops n = true) (hc : Region.chainB md ops n = true) (hn : n < ops.size) :
    ∀ (l : List Oper) (k : Nat) (listed : Array Bool) (a : Act), (∀ j, j < l.length → l[j]? = ops[k + j]?) → k + l.length = n → HeadInv md ops n listed →
    Region.lexHead md ops g l.length k listed = true → wpQ F n₁ P ops C Lq l a →
    wpAnyL F n₁ P md ops C n (fun listed' a' => Region.seqB md ops g n listed' = true ∧ Lq a') l.length listed a
  | [], k, listed, a, _, hk, _, hB, h => by
    have : k = n := by simpa using hk
    subst this
    exact ⟨by simpa [Region.lexHead] using hB, h⟩
  | o :: l, k, listed, a, hl, hk, inv, hB, h => by
    have h0 : ops[k]? = some o := by simpa using (hl 0 (by simp)).symm
    simp only [List.length_cons, Region.lexHead, Bool.and_eq_true] at hB
    obtain ⟨⟨hr, hf⟩, hB'⟩ := hB
    have hkn : k < n := by simp only [List.length_cons] at hk; omega
    have hr' : k ∈ Region.ready md ops listed := by simpa using hr
    have hst : qOp F n₁ P ops C k (wpQ F n₁ P ops C Lq l) a := by unfold qOp; simp only [h0]; exact h
    obtain ⟨v, hy, hK⟩ := yields_of_qOp h0 hst
    exact wpAnyL_first h0 (Region.noSelect_spec hsel) hdef hs hc hn hkn (fun listed' a' hL => seqB_ready hL.1) l.length listed a inv (Region.free_spec h0 hf) hr' hy
      (wpAnyL_lex hsel hdef hs hc hn l (k + 1) _ _ (fun j hj => by have := hl (j + 1) (by simp; omega); simpa [Nat.add_assoc, Nat.add_comm 1 j] using this) (by simp only [List.length_cons] at hk; omega) (inv.set hr' hkn) hB' hK)

def noDefer (ops : Array Oper) : Bool := ops.all fun o => match o.op with | .defer _ => false | _ => true
theorem noDefer_spec {ops : Array Oper} (h : noDefer ops = true) (j : Nat) (o : Oper) (c : Call) (ho : ops[j]? = some o) : o.op ≠ .defer c := by
  intro hc
  have hm : o ∈ ops := Array.mem_of_getElem? ho
  have := (Array.all_eq_true_iff_forall_mem.1 h) o hm
  rw [hc] at this
  cases this
theorem wpAny_of_seq {Q' : Exit → Act → World → Prop} : ∀ (l : List Oper) (k : Nat) (listed : Array Bool) (a : Act) (w : World), (∀ j, l[j]? = ops[k + j]?) →
    Region.seqB md ops l.length k listed = true → wpListIn F n₁ P ops Q' l a w → wpAnyIn F n₁ P md ops Q' l.length listed a w
  | [], _, _, _, _, _, hB, h => ⟨by simpa [Region.seqB] using hB, h⟩
  | o :: l, k, listed, a, w, hl, hB, h => by
    have h0 : ops[k]? = some o := by simpa using (hl 0).symm
    simp only [List.length_cons, Region.seqB, Bool.and_eq_true, decide_eq_true_eq] at hB
    refine ⟨fun h1 => (by rw [hB.1] at h1; cases h1), fun i hi => ?_⟩
    rw [hB.1] at hi
    have hik : i = k := by simpa using hi
    subst hik
    have hw : wpOpIn F n₁ P ops Q' i (wpListIn F n₁ P ops Q' l) a w := by unfold wpOpIn; simp only [h0]; exact h
    exact wpOpIn_mono (fun a' w' h' => wpAny_of_seq l (i + 1) _ a' w' (fun j => by have := hl (j + 1); simpa [Nat.add_assoc, Nat.add_comm 1 j] using this) hB.2 h') hw


theorem ready_repl (l : List Oper) (listed : Array Bool) : Region.ready md (l.map repl).toArray listed = Region.ready md l.toArray listed := by
  unfold Region.ready
  simp only [List.size_toArray, List.length_map]
  apply List.filter_congr
  intro i _
  simp only [List.getElem?_toArray, List.getElem?_map, Option.map_map]
  congr 2
  cases l[i]? with
  | none => rfl
  | some o => simp [repl_after]
theorem seqB_repl (l : List Oper) : ∀ (g k : Nat) (listed : Array Bool), Region.seqB md (l.map repl).toArray g k listed = Region.seqB md l.toArray g k listed
  | 0, k, listed => by simp only [Region.seqB, ready_repl]
  | g + 1, k, listed => by simp only [Region.seqB, ready_repl, seqB_repl l g]

/-- What an allocation does. -/
def AllocAt (F : Fence) (n₁ : Nat) (P : Program) (o : Oper) (p : AL) : Prop := ∀ (a : Act) (w : World) (K : Act → World → Prop) (Q : Exit → Act → World → Prop), K (a.put (some p.2.1) (.pointer (some ⟨w.heap.size, 0, none⟩))) (w.alloc (.cells p.2.2.2.toArray p.2.2.1)) → o.wpIn F n₁ P a w K Q

theorem sim (hF : ∀ f, F.fn f) {l : List Oper} {n g : Nat} {A : List AL} {w0 : World} {L : Array Bool → Act → Prop} {Q' : Exit → Act → World → Prop} (hA : Chk l n A) (hdef : ∀ (j : Nat) (o : Oper) c, l[j]? = some o → o.op ≠ .defer c)
    (hAl : ∀ p ∈ A, ∀ o, l[p.1]? = some o → AllocAt F n₁ P o p)
    (hdone : ∀ listed a, L listed a → ∀ j ∈ Region.ready md l.toArray listed, n ≤ j)
    (hL : ∀ listed a o w', Below w0.heap.size w0 w' → Own A w0 w' o → (∀ p ∈ A, o p.1 ≠ none) → L listed a → wpAnyIn F n₁ P md l.toArray Q' g listed (ov o A a) w') :
    ∀ (f : Nat) (listed : Array Bool) (a : Act) (o : Nat → Option Nat) (w' : World), listed.size = l.length → Below w0.heap.size w0 w' → Own A w0 w' o →
      (∀ p ∈ A, listed.getD p.1 true = false → o p.1 = none) → (∀ p ∈ A, listed.getD p.1 true = true → o p.1 ≠ none) →
      wpAnyL F n₁ P md (l.map repl).toArray (fun w' => Below w0.heap.size w0 w') n L f listed a → wpAnyIn F n₁ P md l.toArray Q' (f + g) listed (ov o A a) w'
  | 0, listed, a, o, w', hsz, hb, ho, h1, h2, h => by
    rw [Nat.zero_add]
    refine hL listed a o w' hb ho (fun p hp => h2 p hp ?_) h
    obtain ⟨x, hx, hal, hd, hg, haf, hn⟩ := hA.al p hp
    cases hl : listed.getD p.1 true with
    | true => rfl
    | false =>
      have := hdone listed a h p.1 (mem_ready.2 ⟨hl, x, by simpa using hx, fun e he => (by rw [haf] at he; simp at he)⟩)
      omega
  | f + 1, listed, a, o, w', hsz, hb, ho, h1, h2, h => by
    rw [show f + 1 + g = (f + g) + 1 by omega]
    have h0 : Region.ready md l.toArray listed ≠ [] := by rw [← ready_repl]; exact h.1
    refine ⟨fun h => absurd h h0, fun i hi => ?_⟩
    obtain ⟨hin, hq⟩ := h.2 i (by rw [ready_repl]; exact hi)
    obtain ⟨hun, x, hx, _⟩ := mem_ready.1 hi
    have hxl : l[i]? = some x := by simpa using hx
    have hil : i < l.length := (List.getElem?_eq_some_iff.1 hxl).1
    have hsz' : (listed.setIfInBounds i true).size = l.length := by simpa using hsz
    have hset : (listed.setIfInBounds i true).getD i true = true := by rw [Array.getD_eq_getD_getElem?]; simp [hsz, hil]
    unfold wpOpIn
    simp only [hx]
    unfold qOp at hq
    have hx' : (l.map repl).toArray[i]? = some (repl x) := by simp [hxl]
    simp only [hx'] at hq
    cases hal : isAlloc x with
    | true =>
      obtain ⟨p, hp, hpi⟩ := hA.all i x hxl hal
      obtain ⟨y, hy, _, hd, hg, haf, hn⟩ := hA.al p hp
      rw [hpi] at hy
      have hxy : x = y := by rw [hxl] at hy; exact Option.some.inj hy
      have hw1 : Region.wanted x (yielded l.toArray (ov o A a).tmps) = true := by unfold Region.wanted; rw [hxy, hg]
      have hw2 : Region.wanted (repl x) (yielded (l.map repl).toArray a.tmps) = true := by unfold Region.wanted; rw [repl_guard, hxy, hg]
      simp only [hw1, if_true]
      simp only [hw2, if_true] at hq
      obtain ⟨v, _, hK⟩ := hq
      rw [repl_dst hal] at hK
      skip
      refine hAl p hp x (by rw [hpi]; exact hxl) _ _ _ _ ?_
      have hnone : o p.1 = none := h1 p hp (by rw [hpi]; exact hun)
      rw [ov_set hA.nd hp hnone]
      refine sim hF hA hdef hAl hdone hL f _ _ _ _ hsz' (Below.alloc hb hb.size _) (ho.alloc hA.nd hp hb hnone) ?_ ?_ hK
      · intro q hq hl
        by_cases hqi : q.1 = i
        · rw [hqi, hset] at hl; cases hl
        · rw [getD_set_ne true (Ne.symm hqi)] at hl
          simp only [hpi, hqi, if_false]
          exact h1 q hq hl
      · intro q hq hl
        by_cases hqi : q.1 = i
        · simp [hpi, hqi]
        · rw [getD_set_ne true (Ne.symm hqi)] at hl
          simp only [hpi, hqi, if_false]
          exact h2 q hq hl
    | false =>
      rw [repl_same hal] at hq
      have hap := hA.apart i x hin hxl hal
      have hw1 : Region.wanted x (yielded (l.map repl).toArray a.tmps) = Region.wanted x (yielded l.toArray (ov o A a).tmps) := by
        rw [ov_wanted (fun p hp => (hap p hp).1), wanted_repl hA (fun p hp => (hap p hp).1)]
      rw [hw1] at hq
      have hne : ∀ p ∈ A, p.1 ≠ i := by
        intro p hp he
        obtain ⟨y, hy, hya, _⟩ := hA.al p hp
        rw [he, hxl] at hy
        have := Option.some.inj hy
        subst this
        rw [hal] at hya; cases hya
      have hl1 : ∀ p ∈ A, (listed.setIfInBounds i true).getD p.1 true = false → o p.1 = none := fun p hp hl => by
        rw [getD_set_ne true (Ne.symm (hne p hp))] at hl; exact h1 p hp hl
      have hl2 : ∀ p ∈ A, (listed.setIfInBounds i true).getD p.1 true = true → o p.1 ≠ none := fun p hp hl => by
        rw [getD_set_ne true (Ne.symm (hne p hp))] at hl; exact h2 p hp hl
      by_cases hw : Region.wanted x (yielded l.toArray (ov o A a).tmps) = true
      · simp only [hw, if_true] at hq ⊢
        obtain ⟨v, hv, hK⟩ := hq
        have hv' : QAt F n₁ P x (ov o A a) (fun w' => Below w0.heap.size w0 w') v := hv.same (ov_size o A a) (fun c => hdef i x c hxl) (ov_exec (fun p hp => (hap p hp).1) (hA.sel i x hxl)) (fun w => ov_about (fun p hp => (hap p hp).1))
        skip
        refine hv' _ _ _ hb fun w2 hw2 => ?_
        rw [← ov_put (fun p hp => (hap p hp).2)]
        exact sim hF hA hdef hAl hdone hL f _ _ _ _ hsz' hw2.1 (ho.below hw2.2) hl1 hl2 hK
      · simp only [hw] at hq ⊢
        refine ⟨fun f _ => hF f, ?_⟩
        rw [← ov_put (fun p hp => (hap p hp).2)]
        exact sim hF hA hdef hAl hdone hL f _ _ _ _ hsz' hb ho hl1 hl2 hq

/-- A region that draws its order: n operations, each of which comes to one value, or allocates; then a tail in one order. -/
theorem wp_region_qa (hF : ∀ f, F.fn f) {id : Nat} {Q : Exit → Act → World → Prop} {a : Act} {w : World} {l l' : List Oper} (n : Nat) (A : List AL) (hl' : l.map repl = l') (hm : P.follows .mixedOrders = true) (hB : Region.lexTailB .any l'.toArray n = true) (hA : alB l n A = true) (hnd : noDefer l.toArray = true)
    (hAl : ∀ p ∈ A, ∀ o, l[p.1]? = some o → AllocAt F n₁ P o p)
    (h : ∀ C : World → Prop, Hid (∀ w', C w' → Below w.heap.size w.drew w') → Hid (∀ w1 w2, C w1 → Below w1.heap.size w1 w2 → Inn C w1 w2) →
      wpQ F n₁ P l'.toArray C (fun a' => ∀ w' (o : Nat → Nat), Below w.heap.size w.drew w' → Owns A w.heap.size w' o → wpListIn F n₁ P l.toArray Q (l.drop n) (ov (fun j => some (o j)) A a') w') (l'.take n) a) : (Code.region id l.toArray true).wpIn F n₁ P Q a w := by
  subst hl'
  have hchk := chk_of hA
  simp only [Region.lexTailB, Bool.and_eq_true, decide_eq_true_eq] at hB
  obtain ⟨⟨⟨⟨hsel, hn⟩, hs⟩, hc⟩, hlex⟩ := hB
  have hdefl : ∀ (j : Nat) (o : Oper) c, l[j]? = some o → o.op ≠ .defer c := fun j o c ho => Fe.noDefer_spec hnd j o c (by simpa using ho)
  have hdef' : ∀ (j : Nat) (o : Oper) c, (l.map repl).toArray[j]? = some o → o.op ≠ .defer c := repl_noDefer hdefl
  have hn' : n < l.length := by simpa using hn
  have htl : ((l.map repl).take n).length = n := by simp; omega
  have hdl : (l.drop n).length = l.toArray.size - n := by simp
  have inv0 : HeadInv .any (l.map repl).toArray n (Array.replicate (l.map repl).toArray.size false) :=
    ⟨by simp, fun j oj _ hl => (by rw [getD_replicate_false] at hl; cases hl), fun t _ ht => getD_in (by simpa using ht) (getD_replicate_false _ _)⟩
  have hq := h (fun w' => Below w.drew.heap.size w.drew w') (fun _ h => h) (fun _ _ h k => ⟨h.trans (k.mono h.size), k⟩)
  have H := wpAnyL_lex (F := F) (n₁ := n₁) (P := P) (C := fun w' => Below w.drew.heap.size w.drew w') (md := .any) (g := (l.map repl).toArray.size - n) hsel hdef' hs hc hn ((l.map repl).take n) 0 _ a (fun j hj => by
    have hj' : j < n := by rw [htl] at hj; exact hj
    simp [hj']) (by simpa using htl) inv0 (by rw [htl]; exact hlex) hq
  refine wpIn_region_any hm ?_
  have := sim hF (L := fun listed' a' => Region.seqB .any (l.map repl).toArray ((l.map repl).toArray.size - n) n listed' = true ∧ ∀ w' (o : Nat → Nat), Below w.heap.size w.drew w' → Owns A w.heap.size w' o → wpListIn F n₁ P l.toArray Q (l.drop n) (ov (fun j => some (o j)) A a') w') (w0 := w.drew) (Q' := Q) (g := l.toArray.size - n) (md := .any) hchk hdefl hAl (fun listed a' hL => by
      have := seqB_ready hL.1
      rwa [ready_repl] at this) (fun listed a' o w' hb ho hs hL => by
    have hgl : (l.map repl).toArray.size - n = l.toArray.size - n := by simp
    have hlast := hL.2 w' (fun j => (o j).getD 0) hb (ho.all hs)
    rw [ov_some hs] at hlast
    have hsq := hL.1
    rw [hgl, seqB_repl] at hsq
    have := wpAny_of_seq (md := .any) (Q' := Q) (l.drop n) n listed (ov o A a') w' (fun j => by simp [List.getElem?_drop]) (by rw [hdl]; exact hsq) hlast
    rwa [hdl] at this) _ (Array.replicate l.toArray.size false) a (fun _ => none) w.drew (by simp) (Below.refl _ _) (Own.none _ _ _) (fun _ _ _ => rfl) (fun p hp hl => by
      obtain ⟨x, hx, _⟩ := hchk.al p hp
      have hlt : p.1 < (Array.replicate l.toArray.size false).size := by simpa using (List.getElem?_eq_some_iff.1 hx).1
      rw [getD_in hlt (getD_replicate_false _ _)] at hl; cases hl) (by
      have : Array.replicate (l.map repl).toArray.size false = Array.replicate l.toArray.size false := by simp
      rw [← this]; exact H)
  rw [htl, show n + (l.toArray.size - n) = l.toArray.size by simp; omega, ov_none] at this
  exact this

theorem wpQ_run {o : Oper} {rest : List Oper} {a : Act} {Q : Act → Prop} (hg : Region.wanted o (yielded ops a.tmps) = true) (h : ∃ v, QAt F n₁ P o a C v ∧ wpQ F n₁ P ops C Q rest (a.put o.dst v)) : wpQ F n₁ P ops C Q (o :: rest) a := by
  unfold wpQ; simp only [hg, if_true]; exact h
theorem wpQ_skip {o : Oper} {rest : List Oper} {a : Act} {Q : Act → Prop} (hg : Region.wanted o (yielded ops a.tmps) = false) (h : wpQ F n₁ P ops C Q rest (a.put o.dst undef)) : wpQ F n₁ P ops C Q (o :: rest) a := by
  unfold wpQ; simp only [hg, Bool.false_eq_true, if_false]; exact h
theorem wpQ_nil {a : Act} {Q : Act → Prop} (h : Q a) : wpQ F n₁ P ops C Q [] a := h
end Fa
end Ear
end Go.Proofs.Ytklfkfnckdeifaa
end
section
namespace Go.Proofs.Ytklfkfnckdeifaa
set_option linter.unusedSimpArgs false
set_option linter.unusedVariables false
open Go.RowKit

theorem eqSetV (x y : BitVec 128) (w : World) :
    Sem.run Try.prog (Op.equalIn 10000 30 (.agg #[.int .u32 (Ear.wd (x) 0), .int .u32 (Ear.wd (x) 1), .int .u32 (Ear.wd (x) 2), .int .u32 (Ear.wd (x) 3)]) (.agg #[.int .u32 (Ear.wd (y) 0), .int .u32 (Ear.wd (y) 1), .int .u32 (Ear.wd (y) 2), .int .u32 (Ear.wd (y) 3)])) w = .ok (decide (x = y)) w := by
  rw [eqSet, Ear.beq_words]
theorem Has_eq {v : BitVec 128} {i : Nat} {b : Bool} (h : (v.getLsbD i && decide (i < 100)) = b) (w : World) : Calls Try.prog 75 #[.agg #[.int .u32 (Ear.wd (v) 0), .int .u32 (Ear.wd (v) 1), .int .u32 (Ear.wd (v) 2), .int .u32 (Ear.wd (v) 3)], .int .i64 (i : Int)] w fun e w' => e = .returned (.bool b) ∧ Below w.heap.size w w' := by
  subst h
  by_cases hi : i < 100
  · refine (Has_yes v (i : Int) (by omega) (by omega) w).mono ?_
    rintro e w' ⟨rfl, hb⟩
    exact ⟨by simp [hi], hb⟩
  · refine (Has_no v (i : Int) (by omega) w).mono ?_
    rintro e w' ⟨rfl, hb⟩
    exact ⟨by simp [hi], hb⟩
end Go.Proofs.Ytklfkfnckdeifaa
end
