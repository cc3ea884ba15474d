/-
  One tally and what lies beside it; what a reply comes to that came before.
-/
import Derived.Test.YtfnolmlmmimehaaTallyH
import Derived.Test.YtfnolmlmmimehaaOpenR
import Derived.Test.YtfnolmlmmimehaaRest
import Derived.Deep.DeepCutAuto
import Derived.BigQuiet
import Derived.Deep.DeepBigQuietO
namespace Go.Proofs.Ytfnolmlmmimehaa
set_option linter.unusedSimpArgs false
set_option linter.unusedVariables false
open Go.RowKit
theorem Have_r {w : World} {B lo cap : Nat} {base : Option Addr} {t : Tl} {r : Rl} (h : TlAt w B lo base cap t) (hr : Rel t r) : Calls Try.prog 61 #[.pointer (some ⟨B, 0, none⟩)] w fun e w' => e = .returned (.int .i64 r.who.length) ∧ Below w.heap.size w w' :=
  (Have_at h).mono fun e w' ⟨h1, h2⟩ => ⟨by rw [h1, hr.hhs, hr.ok.hlen], h2 ▸ Below.refl _ _⟩
theorem Ready_r {w : World} {B lo cap : Nat} {base : Option Addr} {t : Tl} {r : Rl} (h : TlAt w B lo base cap t) (hr : Rel t r) : Calls Try.prog 23 #[.pointer (some ⟨B, 0, none⟩)] w fun e w' => e = .returned (.bool (readyR r)) ∧ Below w.heap.size w w' :=
  (Ready_at h).mono fun e w' ⟨h1, h2⟩ => ⟨by rw [h1, hr.ready], h2 ▸ Below.refl _ _⟩
theorem Repliers_r {w : World} {B lo cap : Nat} {base : Option Addr} {t : Tl} {r : Rl} (h : TlAt w B lo base cap t) (hr : Rel t r) : Calls Try.prog 53 #[.pointer (some ⟨B, 0, none⟩)] w fun e w' => e = .returned (.agg #[.int .u32 (Ear.wd (whoV r.who) 0), .int .u32 (Ear.wd (whoV r.who) 1), .int .u32 (Ear.wd (whoV r.who) 2), .int .u32 (Ear.wd (whoV r.who) 3)]) ∧ Below w.heap.size w w' := by
  have := Repliers_at h
  rw [hr.hrep] at this
  exact this
theorem Heards_r {w : World} {B lo cap : Nat} {base : Option Addr} {t : Tl} {r : Rl} (h : TlAt w B lo base cap t) (hr : Rel t r) : Calls Try.prog 54 #[.pointer (some ⟨B, 0, none⟩)] w (clonePost r.sets w) := by
  have := Heards_at h (by rw [hr.hhs, hr.ok.hlen]; have := hr.ok.hmax; have := hr.ok.h2; have := hr.ok.h3; omega)
  rw [hr.hhs] at this
  exact this
def runTl (t : Tl) (l : List Rp) : Tl := l.foldl (fun t x => takeT t x.from_ x.round x.heard) t
def runRl (r : Rl) (l : List Rp) : Rl := l.foldl (fun r x => takeRT r x.from_ x.round x.heard) r
theorem rel_runl {t : Tl} {r : Rl} (h : Rel t r) (l : List Rp) : Rel (runTl t l) (runRl r l) := by
  induction l generalizing t r with
  | nil => exact h
  | cons a l ih => exact ih (h.take _ _ _)
theorem runTl_succ (t : Tl) (l : List Rp) (k : Nat) (h : k < l.length) : runTl t (l.take (k + 1)) = takeT (runTl t (l.take k)) l[k].from_ l[k].round l[k].heard := by
  unfold runTl; rw [List.take_succ_eq_append_getElem h, List.foldl_append]; rfl
theorem runRl_succ (r : Rl) (l : List Rp) (k : Nat) (h : k < l.length) : runRl r (l.take (k + 1)) = takeRT (runRl r (l.take k)) l[k].from_ l[k].round l[k].heard := by
  unfold runRl; rw [List.take_succ_eq_append_getElem h, List.foldl_append]; rfl
theorem takeRV_cases (r : Rl) (f rd : Int) (h : BitVec 128) :
    takeRV r f rd h = (5, 0) ∨ takeRV r f rd h = (0, 74) ∨ (takeRV r f rd h = (2, 0) ∧ (rd != r.round) = true) ∨ (takeRV r f rd h = (3, 0) ∧ (rd != r.round) = false ∧ r.who.contains f = true) ∨ (takeRV r f rd h = (4, 0) ∧ (rd != r.round) = false ∧ r.who.contains f = false ∧ readyR r = true) ∨ takeRV r f rd h = (1, 0) := by
  unfold takeRV
  split
  · exact .inl rfl
  · split
    · exact .inr (.inl rfl)
    · split
      · rename_i h3
        exact .inr (.inr (.inl ⟨rfl, h3⟩))
      · rename_i h3
        split
        · rename_i h4
          exact .inr (.inr (.inr (.inl ⟨rfl, by simpa using h3, h4⟩)))
        · rename_i h4
          split
          · rename_i h5
            exact .inr (.inr (.inr (.inr (.inl ⟨rfl, by simpa using h3, by simpa using h4, h5⟩))))
          · exact .inr (.inr (.inr (.inr (.inr rfl))))
theorem takeRV_mk {r : Rl} {f rd : Int} {h : BitVec 128} (h1 : 0 ≤ f) (h2 : f < r.n) (h3 : within h r.n = true) (h4 : rd = r.round) (h5 : r.who.contains f = false) (h6 : readyR r = false) : takeRV r f rd h = (1, 0) := by
  unfold takeRV
  have e1 : (decide (f < 0) || decide (r.n ≤ f)) = false := by simp; omega
  rw [e1, h3, h5, h6, h4]
  simp
theorem done_self (r : Rl) (f rd : Int) (h : BitVec 128) : takeRV (takeRT r f rd h) f rd h ≠ (1, 0) := by
  intro hv
  by_cases h1 : takeRV r f rd h = (1, 0)
  · have := (takeRV_one hv).2.2.2.2.1
    unfold takeRT at this
    rw [if_pos h1] at this
    simp [Rl.add] at this
  · unfold takeRT at hv
    rw [if_neg h1] at hv
    exact h1 hv
theorem done_keep {r : Rl} {f rd : Int} {h : BitVec 128} (hd : takeRV r f rd h ≠ (1, 0)) (f' rd' : Int) (h' : BitVec 128) : takeRV (takeRT r f' rd' h') f rd h ≠ (1, 0) := by
  intro hv
  by_cases h1 : takeRV r f' rd' h' = (1, 0)
  · obtain ⟨a1, a2, a3, a4, a5, a6⟩ := takeRV_one hv
    unfold takeRT at a2 a3 a4 a5 a6
    rw [if_pos h1] at a2 a3 a4 a5 a6
    refine hd (takeRV_mk a1 a2 a3 a4 ?_ (takeRV_one h1).2.2.2.2.2)
    simp only [Rl.add, List.contains_eq_mem, decide_eq_false_iff_not, List.mem_append, not_or] at a5
    simpa using a5.1
  · unfold takeRT at hv
    rw [if_neg h1] at hv
    exact hd hv
theorem run_keep {r : Rl} {f rd : Int} {h : BitVec 128} (hd : takeRV r f rd h ≠ (1, 0)) (l : List Rp) : takeRV (runRl r l) f rd h ≠ (1, 0) := by
  induction l generalizing r with
  | nil => exact hd
  | cons a l ih => exact ih (done_keep hd _ _ _)
theorem again (r : Rl) (l : List Rp) : ∀ x ∈ l, takeRV (runRl r l) x.from_ x.round x.heard ≠ (1, 0) := by
  induction l generalizing r with
  | nil => simp
  | cons a l ih =>
    intro x hx
    rcases List.mem_cons.1 hx with rfl | hx
    · exact run_keep (done_self _ _ _ _) l
    · exact ih _ x hx
theorem runRl_round (r : Rl) (l : List Rp) : (runRl r l).round = r.round := by
  induction l generalizing r with
  | nil => rfl
  | cons a l ih =>
    have := ih (takeRT r a.from_ a.round a.heard)
    rw [show runRl r (a :: l) = runRl (takeRT r a.from_ a.round a.heard) l from rfl, this]
    unfold takeRT
    split <;> rfl
/-- The cells of a reply. -/
structure RpIn (W : World) (B o : Nat) (f r : Int) (v : BitVec 128) : Prop where
  lt : B < W.heap.size
  c0 : W.cell? ⟨B, o, none⟩ = some (.int .i64 f)
  c1 : W.cell? ⟨B, o + 1, none⟩ = some (.int .i64 r)
  c2 : W.cell? ⟨B, o + 2, none⟩ = some (.int .u32 (Ear.wd v 0))
  c3 : W.cell? ⟨B, o + 2 + 1, none⟩ = some (.int .u32 (Ear.wd v 1))
  c4 : W.cell? ⟨B, o + 2 + 2, none⟩ = some (.int .u32 (Ear.wd v 2))
  c5 : W.cell? ⟨B, o + 2 + 3, none⟩ = some (.int .u32 (Ear.wd v 3))
theorem RpIn.below {W W' : World} {B o : Nat} {f r : Int} {v : BitVec 128} (h : RpIn W B o f r v) (hb : Below W.heap.size W W') : RpIn W' B o f r v :=
  ⟨Nat.lt_of_lt_of_le h.lt hb.size, (hb.cell (p := ⟨B, _, none⟩) h.lt).trans h.c0, (hb.cell (p := ⟨B, _, none⟩) h.lt).trans h.c1, (hb.cell (p := ⟨B, _, none⟩) h.lt).trans h.c2, (hb.cell (p := ⟨B, _, none⟩) h.lt).trans h.c3, (hb.cell (p := ⟨B, _, none⟩) h.lt).trans h.c4, (hb.cell (p := ⟨B, _, none⟩) h.lt).trans h.c5⟩
theorem LiesR.gets {l : List Rp} {base : Option Addr} {w : World} (h : LiesR l base w) (k : Nat) (hk : k < l.length) : ∃ B o, base = some ⟨B, o, none⟩ ∧ RpIn w B (o + k * 6) l[k].from_ l[k].round l[k].heard := by
  obtain ⟨B, o, he, hB, hc⟩ := h k hk
  exact ⟨B, o, he, hB, hc 0 _ rfl, hc 1 _ rfl, hc 2 _ rfl, hc 3 _ rfl, hc 4 _ rfl, hc 5 _ rfl⟩
theorem TlAt.low {W : World} {B lo lo' cap : Nat} {base : Option Addr} {t : Tl} (h : TlAt W B lo base cap t) (hl : lo' ≤ lo) : TlAt W B lo' base cap t := ⟨h.blk, owns_base h.own hl⟩
/-- A tally lies there, and is none of the blocks of P. -/
structure One (P : Nat → Prop) (w0 W : World) (B : Nat) (t : Tl) : Prop where
  ex : ∃ base cap, TlAt W B w0.heap.size base cap t ∧ ∀ k, blkOf base = some k → ¬ P k
  nB : ¬ P B
  lt : ∀ k, P k → k < W.heap.size
  hB : w0.heap.size ≤ B
  below : Below w0.heap.size w0 W
theorem One.call {P : Nat → Prop} {w0 W W' : World} {B : Nat} {t : Tl} (h : One P w0 W B t) (hb : Below W.heap.size W W') : One P w0 W' B t := by
  obtain ⟨base, cap, ht, hp⟩ := h.ex
  exact ⟨⟨base, cap, ht.below hb, hp⟩, h.nB, fun k hk => Nat.lt_of_lt_of_le (h.lt k hk) hb.size, h.hB, h.below.trans (hb.mono h.below.size)⟩
/-- New blocks beside it. -/
theorem One.beside {P P' : Nat → Prop} {w0 W W' : World} {B : Nat} {t : Tl} (h : One P w0 W B t) (hb : Below W.heap.size W W') (hp : ∀ k, P' k → W.heap.size ≤ k ∧ k < W'.heap.size) : One P' w0 W' B t := by
  obtain ⟨base, cap, ht, -⟩ := h.ex
  refine ⟨⟨base, cap, ht.below hb, fun k hk hp' => ?_⟩, fun hp' => ?_, fun k hk => (hp k hk).2, h.hB, h.below.trans (hb.mono h.below.size)⟩
  · have := (ht.own.lt k (by rw [ownBlock_of]; exact hk)).2
    have := (hp k hp').1
    omega
  · have := (hp B hp').1
    have := ht.blk.lt
    omega
theorem Take_one {P : Nat → Prop} {w0 W : World} {B : Nat} {t : Tl} {r : Rl} {from_ round v1 v2 : Int} {heard : BitVec 128} (h : One P w0 W B t) (hr : Rel t r) (hv : takeRV r from_ round heard = (v1, v2)) :
    Calls Try.prog 15 #[.pointer (some ⟨B, 0, none⟩), .int .i64 from_, .int .i64 round, .agg #[.int .u32 (Ear.wd (heard) 0), .int .u32 (Ear.wd (heard) 1), .int .u32 (Ear.wd (heard) 2), .int .u32 (Ear.wd (heard) 3)]] W fun e W' =>
      e = .returned (.tuple #[.int .i64 v1, .int .i64 v2]) ∧ One P w0 W' B (takeT t from_ round heard) ∧ (∀ k, P k → W'.heap[k]? = W.heap[k]?) ∧ W.heap.size ≤ W'.heap.size := by
  obtain ⟨base, cap, ht, hp⟩ := h.ex
  refine (Take_calls from_ round heard ht h.below.size (by rw [hr.hhs, hr.ok.hlen]; have := hr.ok.hmax; have := hr.ok.h2; have := hr.ok.h3; omega)).mono ?_
  rintro e W' ⟨he, ⟨base', cap', ht', hloc⟩, hk⟩
  refine ⟨by rw [he, hr.takeV, hv], ⟨⟨base', cap', ht', ?_⟩, h.nB, fun k hk' => Nat.lt_of_lt_of_le (h.lt k hk') hk.size, h.hB, Ear.Keep.below h.below hk h.below.size (tlS_lo ht h.hB (Nat.le_refl _))⟩, ?_, hk.size⟩
  · intro k hk' hpk
    rcases hloc with h1 | ⟨g, h1, h2⟩
    · exact hp k (h1 ▸ hk') hpk
    · rw [h1] at hk'
      simp only [Option.some.injEq] at hk'
      subst hk'
      have := h.lt _ hpk
      omega
  · intro k hpk
    refine hk.block k (h.lt k hpk) ?_
    rintro (rfl | e)
    · exact h.nB hpk
    · exact hp k e hpk
theorem owns_same {w w' : World} {b e s n : Nat} {v : Value} {xs : List Value} (h : w.ownsRow b e s v n xs) (hs : ∀ k, v.ownBlock = some k → w'.heap[k]? = w.heap[k]?) : w'.ownsRow b e s v n xs := by
  obtain ⟨hl, h | ⟨g, cap', cur, hv, hb1, hc, hr⟩⟩ := h
  · exact ⟨hl, .inl h⟩
  · exact ⟨hl, .inr ⟨g, cap', cur, hv, hb1, (hs g (by rw [hv]; rfl)).trans hc, hr⟩⟩
theorem New_one {n f self round : Int} {own : BitVec 128} {w0 W : World} (hb : Below w0.heap.size w0 W) (h : newE n f self round own = 0) :
    Calls Try.prog 13 #[.int .i64 n, .int .i64 f, .int .i64 self, .int .i64 round, .agg #[.int .u32 (Ear.wd (own) 0), .int .u32 (Ear.wd (own) 1), .int .u32 (Ear.wd (own) 2), .int .u32 (Ear.wd (own) 3)]] W fun e W' =>
      ∃ B, e = .returned (.tuple #[.pointer (some ⟨B, 0, none⟩), .int .i64 0]) ∧ One (fun _ => False) w0 W' B (newT n f self round own) ∧ Below W.heap.size W W' := by
  refine (New_calls n f self round own W).mono ?_
  rintro e W' ⟨hb1, -, hg⟩
  obtain ⟨B, base, cap, he, hB, hat⟩ := hg h
  exact ⟨B, he, ⟨⟨base, cap, hat.low hb.size, fun _ _ h => h⟩, id, fun _ h => h.elim, Nat.le_trans hb.size hB, hb.trans (hb1.mono hb.size)⟩, hb1⟩
theorem New_bad {n f self round c : Int} {own : BitVec 128} (w : World) (h : newE n f self round own = c) (hc : c ≠ 0) :
    Calls Try.prog 13 #[.int .i64 n, .int .i64 f, .int .i64 self, .int .i64 round, .agg #[.int .u32 (Ear.wd (own) 0), .int .u32 (Ear.wd (own) 1), .int .u32 (Ear.wd (own) 2), .int .u32 (Ear.wd (own) 3)]] w fun e w' =>
      e = .returned (.tuple #[.pointer none, .int .i64 c]) ∧ Below w.heap.size w w' := by
  refine (New_calls n f self round own w).mono ?_
  rintro e W' ⟨hb1, hbad, -⟩
  exact ⟨by rw [hbad (by rw [h]; exact hc), h], hb1⟩
theorem Has_valE {v : BitVec 128} {i : Int} {b : Bool} (h : hasV v i = b) (w : World) : Calls Try.prog 46 #[.agg #[.int .u32 (Ear.wd (v) 0), .int .u32 (Ear.wd (v) 1), .int .u32 (Ear.wd (v) 2), .int .u32 (Ear.wd (v) 3)], .int .i64 i] w fun e w' => e = .returned (.bool b) ∧ Below w.heap.size w w' := by
  subst h; exact Has_val v i w
attribute [local irreducible] Ear.wd Ear.one Ear.clean withV withE hasV whoV newE newT takeRV takeRT takeT runTl runRl
attribute [local go_sem] eqNilP eqNilN eqSet
end Go.Proofs.Ytfnolmlmmimehaa
