/-
  The document's tally as data, and how it stands to the program's.
-/
import Derived.Test.YtfnolmlmmimehaaTallyE
namespace Go.Proofs.Ytfnolmlmmimehaa
set_option linter.unusedSimpArgs false
set_option linter.unusedVariables false
open Go.RowKit
theorem hasV_withV (s : BitVec 128) (x y : Int) (hx : 0 ≤ x ∧ x < 100) : hasV (withV s x) y = (hasV s y || decide (x = y)) := by
  unfold hasV withV
  rw [if_pos hx]
  by_cases hy : 0 ≤ y ∧ y < 100
  · rw [if_pos hy, if_pos hy, BitVec.getLsbD_or, Ear.clean_bit, Ear.one_bit]
    obtain ⟨i, rfl⟩ := Int.eq_ofNat_of_zero_le hx.1
    obtain ⟨j, rfl⟩ := Int.eq_ofNat_of_zero_le hy.1
    have hj : j < 100 := by omega
    have hj' : j < 128 := by omega
    by_cases hij : i = j
    · subst hij; simp [hj, hj']
    · have : ¬ ((i : Int) = (j : Int)) := by omega
      have h2 : ¬ (j = i) := fun e => hij e.symm
      simp [hj, hj', this, h2]
  · rw [if_neg hy, if_neg hy]
    have : x ≠ y := by omega
    simp [this]
theorem hasV_zero (y : Int) : hasV 0#128 y = false := by unfold hasV; split <;> simp
def whoV (l : List Int) : BitVec 128 := l.foldl withV 0#128
theorem whoV_snoc (l : List Int) (x : Int) : whoV (l ++ [x]) = withV (whoV l) x := by simp [whoV]
theorem hasV_fold (l : List Int) (s : BitVec 128) (h : ∀ x ∈ l, 0 ≤ x ∧ x < 100) (y : Int) : hasV (l.foldl withV s) y = (hasV s y || l.contains y) := by
  induction l generalizing s with
  | nil => simp
  | cons a t ih =>
    rw [List.foldl_cons, ih _ (fun x hx => h x (List.mem_cons_of_mem _ hx)), hasV_withV _ _ _ (h a List.mem_cons_self), List.contains_cons, Bool.or_assoc]
    congr 2
    by_cases hay : a = y
    · subst hay; simp
    · have : (y == a) = false := beq_eq_false_iff_ne.2 (Ne.symm hay)
      rw [this]; simpa using hay
theorem hasV_whoV (l : List Int) (h : ∀ x ∈ l, 0 ≤ x ∧ x < 100) (y : Int) : hasV (whoV l) y = l.contains y := by
  unfold whoV; rw [hasV_fold l _ h, hasV_zero, Bool.false_or]

/-- The document's tally, as data. -/
structure Rl where
  n : Int
  f : Int
  round : Int
  who : List Int
  sets : List (BitVec 128)
def readyR (r : Rl) : Bool := decide (0 < r.n) && decide (r.n - r.f ≤ r.who.length)
def takeRV (r : Rl) (from_ round : Int) (heard : BitVec 128) : Int × Int :=
  if (decide (from_ < 0) || decide (r.n ≤ from_)) = true then (5, 0) else if within heard r.n = false then (0, 74) else if (round != r.round) = true then (2, 0) else if r.who.contains from_ = true then (3, 0) else if readyR r = true then (4, 0) else (1, 0)
def Rl.add (r : Rl) (from_ : Int) (heard : BitVec 128) : Rl := { r with who := r.who ++ [from_], sets := r.sets ++ [heard] }
def takeRT (r : Rl) (from_ round : Int) (heard : BitVec 128) : Rl := if takeRV r from_ round heard = (1, 0) then r.add from_ heard else r
/-- The bounds of a document's tally. -/
structure Rl.Ok (r : Rl) : Prop where
  h1 : 1 ≤ r.n
  h2 : r.n ≤ 100
  h3 : 0 ≤ r.f
  h4 : r.f < r.n
  hlen : r.sets.length = r.who.length
  hmax : (r.who.length : Int) ≤ r.n - r.f
  hpos : 0 < r.who.length
  hin : ∀ x ∈ r.who, 0 ≤ x ∧ x < 100
/-- The two tallies say the same. -/
structure Rel (t : Tl) (r : Rl) : Prop where
  ok : r.Ok
  hn : t.n = r.n
  hneed : t.need = r.n - r.f
  hround : t.round = r.round
  hhs : t.hs = r.sets
  hrep : t.rep = whoV r.who
theorem Rel.ready {t : Tl} {r : Rl} (h : Rel t r) : readyT t = readyR r := by
  have h1 := h.ok.h1
  have h4 := h.ok.h4
  have h5 := h.ok.hmax
  have h6 := h.ok.hlen
  unfold readyT readyR
  rw [h.hneed, h.hhs, h6, Bool.eq_iff_iff]
  simp only [Bool.and_eq_true, decide_eq_true_eq]
  omega
theorem Rel.has {t : Tl} {r : Rl} (h : Rel t r) (y : Int) : hasV t.rep y = r.who.contains y := by
  rw [h.hrep, hasV_whoV _ h.ok.hin]
theorem Rel.takeV {t : Tl} {r : Rl} (h : Rel t r) (from_ round : Int) (heard : BitVec 128) : takeV t from_ round heard = takeRV r from_ round heard := by
  unfold Go.Proofs.Ytfnolmlmmimehaa.takeV takeRV
  rw [h.hn, h.hround, h.ready, h.has]
theorem takeRV_one {r : Rl} {from_ round : Int} {heard : BitVec 128} (h : takeRV r from_ round heard = (1, 0)) :
    0 ≤ from_ ∧ from_ < r.n ∧ within heard r.n = true ∧ round = r.round ∧ r.who.contains from_ = false ∧ readyR r = false := by
  unfold takeRV at h
  split at h
  · simp at h
  · rename_i h1
    split at h
    · simp at h
    · rename_i h2
      split at h
      · simp at h
      · rename_i h3
        split at h
        · simp at h
        · rename_i h4
          split at h
          · simp at h
          · rename_i h5
            simp only [Bool.or_eq_true, decide_eq_true_eq, not_or] at h1
            refine ⟨by omega, by omega, by simpa using h2, by simpa using h3, by simpa using h4, by simpa using h5⟩
theorem Rl.Ok.take {r : Rl} (h : r.Ok) (from_ round : Int) (heard : BitVec 128) : (takeRT r from_ round heard).Ok := by
  unfold takeRT
  split
  · rename_i h1
    obtain ⟨h2, h3, h4, h5, h6, h7⟩ := takeRV_one h1
    have a1 := h.h1
    have a2 := h.h2
    have a3 := h.h3
    have a4 := h.h4
    have a5 := h.hmax
    have a6 := h.hlen
    unfold readyR at h7
    simp only [Bool.and_eq_false_iff, decide_eq_false_iff_not] at h7
    refine ⟨h.h1, h.h2, h.h3, h.h4, by simp [Rl.add, a6], by simp [Rl.add]; omega, by simp [Rl.add], ?_⟩
    intro x hx
    simp only [Rl.add, List.mem_append, List.mem_singleton] at hx
    rcases hx with hx | rfl
    · exact h.hin x hx
    · omega
  · exact h
theorem Rel.take {t : Tl} {r : Rl} (h : Rel t r) (from_ round : Int) (heard : BitVec 128) : Rel (takeT t from_ round heard) (takeRT r from_ round heard) := by
  refine ⟨h.ok.take _ _ _, ?_, ?_, ?_, ?_, ?_⟩
  all_goals
    unfold takeT takeRT
    rw [h.takeV]
    split
    · simp [Tl.add, Rl.add, h.hn, h.hneed, h.hround, h.hhs, h.hrep, whoV_snoc]
    · first | exact h.hn | exact h.hneed | exact h.hround | exact h.hhs | exact h.hrep
theorem rel_new {n f self round : Int} {own : BitVec 128} (h : newE n f self round own = 0) : Rel (newT n f self round own) ⟨n, f, round, [self], [own]⟩ := by
  unfold newE at h
  split at h
  · simp at h
  · rename_i h1
    split at h
    · simp at h
    · rename_i h2
      split at h
      · simp at h
      · refine ⟨⟨by show 1 ≤ n; omega, by show n ≤ 100; omega, by show 0 ≤ f; omega, by show f < n; omega, rfl, by simp; omega, by simp, ?_⟩, rfl, rfl, rfl, rfl, rfl⟩
        intro x hx
        simp only [List.mem_singleton] at hx
        subst hx
        omega

/-- What lies where a row of a block lies. -/
theorem owns_of_blk {W : World} {lo B e s n : Nat} {cs : List Value} (h : Ear.Blk W B e cs) (hlo : lo ≤ B) (hl : cs.length = n * s) (hn : n ≤ maxLen) : W.ownsRow lo e s (.slice (some ⟨B, 0, none⟩) n n) n cs :=
  ⟨hl, .inr ⟨B, n, cs.toArray, rfl, hlo, h, Nat.le_refl _, hn, by simp [hl], by simp [← hl]⟩⟩
theorem owns_keep {S : Nat → Prop} {w w' : World} {b e s n : Nat} {v : Value} {xs : List Value} (h : w.ownsRow b e s v n xs) (hk : Ear.Keep S w w') (hn : ∀ k, v.ownBlock = some k → ¬ S k) : w'.ownsRow b e s v n xs := by
  obtain ⟨hl, h | ⟨g, cap', cur, hv, hb1, hc, hr⟩⟩ := h
  · exact ⟨hl, .inl h⟩
  · exact ⟨hl, .inr ⟨g, cap', cur, hv, hb1, (hk.block g (Array.getElem?_eq_some_iff.1 hc).1 (hn g (by rw [hv]; rfl))).trans hc, hr⟩⟩
/-- Where a document's tally lies. -/
abbrev rlCells (r : Rl) (b1 : Option Addr) (c1 : Nat) (b2 : Option Addr) (c2 : Nat) : List Value :=
  [.int .i64 r.n, .int .i64 r.f, .int .i64 r.round, .slice b1 r.who.length c1, .slice b2 r.sets.length c2]
structure RlAt (W : World) (R lo : Nat) (b1 : Option Addr) (c1 : Nat) (b2 : Option Addr) (c2 : Nat) (r : Rl) : Prop where
  blk : Ear.Blk W R 37 (rlCells r b1 c1 b2 c2)
  who : W.ownsRow lo 3 1 (.slice b1 r.who.length c1) r.who.length (intsV r.who)
  sets : W.ownsRow lo 26 4 (.slice b2 r.sets.length c2) r.sets.length (setsV r.sets)
theorem RlAt.below {W W' : World} {R lo c1 c2 : Nat} {b1 b2 : Option Addr} {r : Rl} (h : RlAt W R lo b1 c1 b2 c2 r) (hb : Below W.heap.size W W') : RlAt W' R lo b1 c1 b2 c2 r :=
  ⟨h.blk.below hb h.blk.lt, owns_below h.who hb, owns_below h.sets hb⟩
/-- A document's tally lies as it lay where the program's turned. -/
theorem RlAt.keep {W W' : World} {B R lo lo' c1 c2 cap : Nat} {b1 b2 base : Option Addr} {r : Rl} {t : Tl} (h : RlAt W R lo b1 c1 b2 c2 r) (ht : TlAt W B lo' base cap t) (hk : Ear.Keep (TlS B base) W W') (hd : ∀ k, blkOf base = some k → blkOf b2 ≠ some k) : RlAt W' R lo b1 c1 b2 c2 r := by
  refine ⟨h.blk.keep hk ?_, owns_keep h.who hk ?_, owns_keep h.sets hk ?_⟩
  · rintro (e | e)
    · exact Ear.Blk.type_ne h.blk ht.blk (by decide) e
    · have := own_type_ne ht.own h.blk (by decide)
      rw [ownBlock_of] at this
      exact this e.symm
  · rintro k hk (e | e)
    · have := own_type_ne h.who ht.blk (by decide)
      rw [hk] at this
      exact this (by rw [e])
    · obtain ⟨hl, ⟨hv, -⟩ | ⟨g, cap', cur, hv, hb1, hc, hr⟩⟩ := h.who
      · rw [hv] at hk; cases hk
      · obtain ⟨hl', ⟨hv', -⟩ | ⟨g', cap'', cur', hv', hb1', hc', hr'⟩⟩ := ht.own
        · simp only [Value.slice.injEq] at hv'; rw [hv'.1] at e; cases e
        · rw [hv] at hk
          simp only [Value.ownBlock, Option.some.injEq] at hk
          simp only [Value.slice.injEq] at hv'
          rw [hv'.1] at e
          simp only [blkOf, Option.map_some, Option.some.injEq] at e
          subst hk e
          rw [hc] at hc'
          simp at hc'
  · rintro k hk (e | e)
    · have := own_type_ne h.sets ht.blk (by decide)
      rw [hk] at this
      exact this (by rw [e])
    · exact hd k e (by rw [← ownBlock_of]; exact hk)
/-- And the program's where the document's turned. -/
theorem TlAt.keepR {W W' : World} {B R lo cap c1 c2 lo' : Nat} {base b1 b2 : Option Addr} {t : Tl} {r : Rl} (h : TlAt W B lo base cap t) (hr : RlAt W R lo' b1 c1 b2 c2 r) (hk : Ear.Keep (fun k => k = R) W W') : TlAt W' B lo base cap t := by
  refine ⟨h.blk.keep hk ?_, owns_keep h.own hk ?_⟩
  · exact fun e => Ear.Blk.type_ne hr.blk h.blk (by decide) e.symm
  · rintro k hk' rfl
    exact own_type_ne h.own hr.blk (by decide) hk'.symm
/-- Both lie there, apart. -/
structure Two (w0 W : World) (B R : Nat) (t : Tl) (r : Rl) : Prop where
  ex : ∃ base cap b1 c1 b2 c2, TlAt W B w0.heap.size base cap t ∧ RlAt W R w0.heap.size b1 c1 b2 c2 r ∧ ∀ k, blkOf base = some k → blkOf b2 ≠ some k
  hB : w0.heap.size ≤ B
  hR : w0.heap.size ≤ R
  below : Below w0.heap.size w0 W
theorem Two.call {w0 W W' : World} {B R : Nat} {t : Tl} {r : Rl} (h : Two w0 W B R t r) (hb : Below W.heap.size W W') : Two w0 W' B R t r := by
  obtain ⟨base, cap, b1, c1, b2, c2, ht, hr, hd⟩ := h.ex
  exact ⟨⟨base, cap, b1, c1, b2, c2, ht.below hb, hr.below hb, hd⟩, h.hB, h.hR, h.below.trans (hb.mono h.below.size)⟩
theorem Take_two {w0 W : World} {B R : Nat} {t : Tl} {r : Rl} (from_ round : Int) (heard : BitVec 128) (h : Two w0 W B R t r) (hn : t.hs.length ≤ 1000) :
    Calls Try.prog 15 #[.pointer (some ⟨B, 0, none⟩), .int .i64 from_, .int .i64 round, .agg #[.int .u32 (Ear.wd (heard) 0), .int .u32 (Ear.wd (heard) 1), .int .u32 (Ear.wd (heard) 2), .int .u32 (Ear.wd (heard) 3)]] W fun e W' =>
      e = .returned (.tuple #[.int .i64 (takeV t from_ round heard).1, .int .i64 (takeV t from_ round heard).2]) ∧ Two w0 W' B R (takeT t from_ round heard) r := by
  obtain ⟨base, cap, b1, c1, b2, c2, ht, hr, hd⟩ := h.ex
  refine (Take_calls from_ round heard ht h.below.size hn).mono ?_
  rintro e W' ⟨he, ⟨base', cap', ht', hloc⟩, hk⟩
  refine ⟨he, ⟨⟨base', cap', b1, c1, b2, c2, ht', hr.keep ht hk hd, ?_⟩, h.hB, h.hR, Ear.Keep.below h.below hk h.below.size (tlS_lo ht h.hB (Nat.le_refl _))⟩⟩
  intro k hk' e2
  rcases hloc with h1 | ⟨g, h1, h2⟩
  · exact hd k (h1 ▸ hk') e2
  · rw [h1] at hk'
    simp only [Option.some.injEq] at hk'
    subst hk'
    have := (hr.sets.lt _ (by rw [ownBlock_of]; exact e2)).2
    omega
structure RTakePost (w : World) (R lo : Nat) (b2 : Option Addr) (r : Rl) (from_ round : Int) (heard : BitVec 128) (e : Ending) (w' : World) : Prop where
  ret : e = .returned (.tuple #[.int .i64 (takeRV r from_ round heard).1, .int .i64 (takeRV r from_ round heard).2])
  at_ : ∃ b1' c1' b2' c2', RlAt w' R lo b1' c1' b2' c2' (takeRT r from_ round heard) ∧ (blkOf b2' = blkOf b2 ∨ ∃ g, blkOf b2' = some g ∧ w.heap.size ≤ g)
  keep : Ear.Keep (fun k => k = R) w w'
theorem RTakePost.stay {w w' : World} {R lo c1 c2 : Nat} {b1 b2 : Option Addr} {r : Rl} {from_ round : Int} {heard : BitVec 128} {e : Ending} {x : Int × Int} (hx : takeRV r from_ round heard = x) (h1 : x ≠ (1, 0)) (hat : RlAt w' R lo b1 c1 b2 c2 r) (hb : Below w.heap.size w w')
    (he : e = .returned (.tuple #[.int .i64 x.1, .int .i64 x.2])) : RTakePost w R lo b2 r from_ round heard e w' :=
  ⟨by rw [hx]; exact he, ⟨b1, c1, b2, c2, by unfold takeRT; rw [hx, if_neg h1]; exact hat, .inl rfl⟩, Ear.Keep.of_below hb⟩
end Go.Proofs.Ytfnolmlmmimehaa
