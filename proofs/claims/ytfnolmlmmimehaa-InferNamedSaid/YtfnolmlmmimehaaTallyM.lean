/-
  Ids that have gone round by one place; two tallies side by side.
-/
import Derived.Test.YtfnolmlmmimehaaTallyK
namespace Go.Proofs.Ytfnolmlmmimehaa
set_option linter.unusedSimpArgs false
set_option linter.unusedVariables false
open Go.RowKit
def rotI (n x : Int) : Int := (x + 1) % n
theorem rotI_eq {n x : Int} (h0 : 0 ≤ x) (h1 : x < n) : rotI n x = if x + 1 = n then 0 else x + 1 := by
  unfold rotI
  split
  · rename_i h; rw [h, Int.emod_self]
  · rename_i h; exact Int.emod_eq_of_lt (by omega) (by omega)
theorem rotI_in {n x : Int} (h0 : 0 ≤ x) (h1 : x < n) : 0 ≤ rotI n x ∧ rotI n x < n := by
  rw [rotI_eq h0 h1]; split <;> omega
theorem rotI_inj {n x y : Int} (h0 : 0 ≤ x) (h1 : x < n) (h2 : 0 ≤ y) (h3 : y < n) (h : rotI n x = rotI n y) : x = y := by
  rw [rotI_eq h0 h1, rotI_eq h2 h3] at h
  split at h <;> split at h <;> omega
def rotR (r : Rl) : Rl := { r with who := r.who.map (rotI r.n) }
/-- All that have replied are nodes. -/
def InN (r : Rl) : Prop := ∀ x ∈ r.who, 0 ≤ x ∧ x < r.n
theorem InN.take {r : Rl} (h : InN r) (f rd : Int) (v : BitVec 128) : InN (takeRT r f rd v) := by
  unfold takeRT
  split
  · rename_i h1
    obtain ⟨a1, a2, -⟩ := takeRV_one h1
    intro x hx
    simp only [Rl.add, List.mem_append, List.mem_singleton] at hx
    rcases hx with hx | rfl
    · exact h x hx
    · exact ⟨a1, a2⟩
  · exact h
theorem rot_contains {r : Rl} (h : InN r) {f : Int} (h0 : 0 ≤ f) (h1 : f < r.n) : (rotR r).who.contains (rotI r.n f) = r.who.contains f := by
  rw [Bool.eq_iff_iff, List.contains_iff_mem, List.contains_iff_mem]
  unfold rotR
  rw [List.mem_map]
  constructor
  · rintro ⟨a, ha, he⟩
    have := h a ha
    rw [← rotI_inj this.1 this.2 h0 h1 he]
    exact ha
  · exact fun hf => ⟨f, hf, rfl⟩
theorem rot_ready (r : Rl) : readyR (rotR r) = readyR r := by unfold readyR rotR; simp
theorem rot_takeV {r : Rl} (h : InN r) {f rd : Int} {v : BitVec 128} (h0 : 0 ≤ f) (h1 : f < r.n) : takeRV (rotR r) (rotI r.n f) rd v = takeRV r f rd v := by
  have hr := rotI_in h0 h1
  unfold takeRV
  rw [rot_contains h h0 h1, rot_ready]
  have e1 : (decide (rotI r.n f < 0) || decide (r.n ≤ rotI r.n f)) = (decide (f < 0) || decide (r.n ≤ f)) := by
    rw [decide_eq_false (by omega), decide_eq_false (by omega), decide_eq_false (by omega), decide_eq_false (by omega)]
  show (if (decide (rotI r.n f < 0) || decide (r.n ≤ rotI r.n f)) = true then _ else _) = _
  rw [e1]
  rfl
theorem rot_takeT {r : Rl} (h : InN r) {f rd : Int} {v : BitVec 128} (h0 : 0 ≤ f) (h1 : f < r.n) : takeRT (rotR r) (rotI r.n f) rd v = rotR (takeRT r f rd v) := by
  unfold takeRT
  rw [rot_takeV h h0 h1]
  split
  · simp [rotR, Rl.add]
  · rfl
theorem take_far {r : Rl} {f rd : Int} {v : BitVec 128} (h : f < 0 ∨ r.n ≤ f) : takeRT r f rd v = r := by
  unfold takeRT takeRV
  have : (decide (f < 0) || decide (r.n ≤ f)) = true := by simpa using h
  rw [if_pos this, if_neg (by decide)]
theorem takeRT_n (r : Rl) (f rd : Int) (v : BitVec 128) : (takeRT r f rd v).n = r.n := by unfold takeRT; split <;> rfl
def runZ (r : Rl) (l : List Rp) : Rl := l.foldl (fun r x => takeRT r x.from_ x.round 0#128) r
theorem runZ_succ (r : Rl) (l : List Rp) (k : Nat) (h : k < l.length) : runZ r (l.take (k + 1)) = takeRT (runZ r (l.take k)) l[k].from_ l[k].round 0#128 := by
  unfold runZ; rw [List.take_succ_eq_append_getElem h, List.foldl_append]; rfl
theorem runZ_n (r : Rl) (l : List Rp) : (runZ r l).n = r.n := by
  induction l generalizing r with
  | nil => rfl
  | cons a l ih =>
    rw [show runZ r (a :: l) = runZ (takeRT r a.from_ a.round 0#128) l from rfl, ih, takeRT_n]
theorem runZ_in {r : Rl} (h : InN r) (l : List Rp) : InN (runZ r l) := by
  induction l generalizing r with
  | nil => exact h
  | cons a l ih => exact ih (h.take _ _ _)
theorem new_rot {n f self round : Int} (h : newE n f self round 0#128 = 0) : newE n f (rotI n self) round 0#128 = 0 := by
  have h' := h
  unfold newE at h ⊢
  split at h
  · simp at h
  · rename_i h1
    split at h
    · simp at h
    · rename_i h2
      have := rotI_in (n := n) (x := self) (by omega) (by omega)
      rw [if_neg h1, if_neg (by omega)]
      exact h
/-- A set of ids, bit by bit. -/
theorem whoV_bit (l : List Int) (h : ∀ x ∈ l, 0 ≤ x ∧ x < 100) (i : Nat) : (whoV l).getLsbD i = (decide (i < 100) && l.contains (i : Int)) := by
  by_cases hi : i < 100
  · have := hasV_whoV l h i
    unfold hasV at this
    rw [if_pos (by omega), Int.toNat_natCast] at this
    simp [hi, this]
  · have : ∀ (l : List Int) (s : BitVec 128), (∀ x ∈ l, 0 ≤ x ∧ x < 100) → s.getLsbD i = false → (l.foldl withV s).getLsbD i = false := by
      intro l
      induction l with
      | nil => exact fun s _ hs => hs
      | cons a l ih =>
        intro s hl hs
        refine ih _ (fun x hx => hl x (List.mem_cons_of_mem _ hx)) ?_
        have ha := hl a List.mem_cons_self
        unfold withV
        rw [if_pos ha, BitVec.getLsbD_or, Ear.clean_bit, Ear.one_bit, hs]
        have : ¬ (i = a.toNat) := by omega
        simp [this]
    unfold whoV
    rw [this l 0#128 h (by simp)]
    simp [hi]
theorem whoV_congr {l m : List Int} (hl : ∀ x ∈ l, 0 ≤ x ∧ x < 100) (hm : ∀ x ∈ m, 0 ≤ x ∧ x < 100) (h : ∀ x, x ∈ l ↔ x ∈ m) : whoV l = whoV m := by
  apply BitVec.eq_of_getLsbD_eq
  intro i _
  rw [whoV_bit l hl, whoV_bit m hm]
  congr 1
  rw [Bool.eq_iff_iff, List.contains_iff_mem, List.contains_iff_mem]
  exact h _
theorem ofL_who (l : List Int) (h : okL l) : ofL l = whoV l := by
  have : ∀ (l : List Int) (s : BitVec 128), okL l → l.foldl (fun s x => Ear.clean s ||| Ear.one x.toNat) s = l.foldl withV s := by
    intro l
    induction l with
    | nil => exact fun _ _ => rfl
    | cons a l ih =>
      intro s hl
      rw [List.foldl_cons, List.foldl_cons, ih _ (fun x hx => hl x (List.mem_cons_of_mem _ hx))]
      unfold withV
      rw [if_pos (hl a List.mem_cons_self)]
  exact this l _ h
theorem mem_ids (l : List Int) (h : ∀ x ∈ l, 0 ≤ x ∧ x < 100) (x : Int) : x ∈ ids (whoV l) ↔ x ∈ l := by
  unfold ids idsTo
  simp only [List.mem_map, List.mem_filter, List.mem_range]
  constructor
  · rintro ⟨i, ⟨hi, hb⟩, rfl⟩
    rw [whoV_bit l h] at hb
    simp only [hi, decide_true, Bool.true_and, List.contains_iff_mem] at hb
    exact hb
  · intro hx
    have := h x hx
    refine ⟨x.toNat, ⟨by omega, ?_⟩, by omega⟩
    rw [whoV_bit l h, show ((x.toNat : Nat) : Int) = x by omega]
    simp only [Bool.and_eq_true, decide_eq_true_eq, List.contains_iff_mem]
    exact ⟨by omega, hx⟩
theorem rot_sets {r : Rl} (h : InN r) (hn : r.n ≤ 100) : okL ((ids (whoV r.who)).map (rotI r.n)) ∧ ofL ((ids (whoV r.who)).map (rotI r.n)) = whoV (rotR r).who := by
  have hw : ∀ x ∈ r.who, 0 ≤ x ∧ x < 100 := fun x hx => by have := h x hx; omega
  have h1 : okL ((ids (whoV r.who)).map (rotI r.n)) := by
    intro x hx
    obtain ⟨y, hy, rfl⟩ := List.mem_map.1 hx
    have := h y ((mem_ids r.who hw y).1 hy)
    have := rotI_in this.1 this.2
    omega
  refine ⟨h1, ?_⟩
  rw [ofL_who _ h1]
  refine whoV_congr h1 ?_ ?_
  · intro x hx
    unfold rotR at hx
    obtain ⟨y, hy, rfl⟩ := List.mem_map.1 hx
    have := h y hy
    have := rotI_in this.1 this.2
    omega
  · intro x
    unfold rotR
    simp only [List.mem_map, mem_ids r.who hw]

/-- Two tallies, apart. -/
structure Duo (w0 W : World) (B C : Nat) (t u : Tl) : Prop where
  ex : ∃ base cap, TlAt W C w0.heap.size base cap u ∧ One (TlS C base) w0 W B t
  hC : w0.heap.size ≤ C
theorem Duo.below {w0 W : World} {B C : Nat} {t u : Tl} (h : Duo w0 W B C t u) : Below w0.heap.size w0 W := by
  obtain ⟨base, cap, -, h1⟩ := h.ex
  exact h1.below
theorem Duo.symm {w0 W : World} {B C : Nat} {t u : Tl} (h : Duo w0 W B C t u) : Duo w0 W C B u t := by
  obtain ⟨base, cap, hu, h1⟩ := h.ex
  obtain ⟨base', cap', ht, hp⟩ := h1.ex
  refine ⟨⟨base', cap', ht, ⟨⟨base, cap, hu, ?_⟩, ?_, ?_, h.hC, h1.below⟩⟩, h1.hB⟩
  · rintro k hk (rfl | hk')
    · exact h1.nB (.inr hk)
    · exact hp k hk' (.inr hk)
  · rintro (rfl | hk')
    · exact h1.nB (.inl rfl)
    · exact hp _ hk' (.inl rfl)
  · rintro k (rfl | hk)
    · exact ht.blk.lt
    · exact (ht.own.lt k (by rw [ownBlock_of]; exact hk)).2
theorem Duo.call {w0 W W' : World} {B C : Nat} {t u : Tl} (h : Duo w0 W B C t u) (hb : Below W.heap.size W W') : Duo w0 W' B C t u := by
  obtain ⟨base, cap, hu, h1⟩ := h.ex
  exact ⟨⟨base, cap, hu.below hb, h1.call hb⟩, h.hC⟩
theorem Take_duo {w0 W : World} {B C : Nat} {t u : Tl} {r : Rl} {from_ round v1 v2 : Int} {heard : BitVec 128} (h : Duo w0 W B C t u) (hr : Rel t r) (hv : takeRV r from_ round heard = (v1, v2)) :
    Calls Try.prog 15 #[.pointer (some ⟨B, 0, none⟩), .int .i64 from_, .int .i64 round, .agg #[.int .u32 (Ear.wd (heard) 0), .int .u32 (Ear.wd (heard) 1), .int .u32 (Ear.wd (heard) 2), .int .u32 (Ear.wd (heard) 3)]] W fun e W' =>
      e = .returned (.tuple #[.int .i64 v1, .int .i64 v2]) ∧ ∃ t', Rel t' (takeRT r from_ round heard) ∧ Duo w0 W' B C t' u := by
  obtain ⟨base, cap, hu, h1⟩ := h.ex
  refine (Take_one h1 hr hv).mono ?_
  rintro e W' ⟨he, h2, hs, -⟩
  refine ⟨he, _, hr.take _ _ _, ⟨base, cap, ⟨(hs C (.inl rfl)).trans hu.blk, owns_same hu.own fun k hk => hs k (.inr (by rw [← hk, ownBlock_of]))⟩, h2⟩, h.hC⟩
theorem New_duo {n f self round : Int} {own : BitVec 128} {w0 W : World} {B : Nat} {t : Tl} (h1 : One (fun _ => False) w0 W B t) (h : newE n f self round own = 0) :
    Calls Try.prog 13 #[.int .i64 n, .int .i64 f, .int .i64 self, .int .i64 round, .agg #[.int .u32 (Ear.wd (own) 0), .int .u32 (Ear.wd (own) 1), .int .u32 (Ear.wd (own) 2), .int .u32 (Ear.wd (own) 3)]] W fun e W' =>
      ∃ C, e = .returned (.tuple #[.pointer (some ⟨C, 0, none⟩), .int .i64 0]) ∧ Duo w0 W' B C t (newT n f self round own) := by
  refine (New_calls n f self round own W).mono ?_
  rintro e W' ⟨hb1, -, hg⟩
  obtain ⟨C, base, cap, he, hC, hat⟩ := hg h
  refine ⟨C, he, ⟨base, cap, hat.low h1.below.size, h1.beside hb1 ?_⟩, Nat.le_trans h1.below.size hC⟩
  rintro k (rfl | hk)
  · exact ⟨hC, hat.blk.lt⟩
  · exact hat.own.lt k (by rw [ownBlock_of]; exact hk)
theorem zeroS : (.agg #[.int .u32 (Ear.wd (0#128) 0), .int .u32 (Ear.wd (0#128) 1), .int .u32 (Ear.wd (0#128) 2), .int .u32 (Ear.wd (0#128) 3)] : Value) = .agg #[.int .u32 0, .int .u32 0, .int .u32 0, .int .u32 0] := by simp only [Ear.wd_zero]
end Go.Proofs.Ytfnolmlmmimehaa
