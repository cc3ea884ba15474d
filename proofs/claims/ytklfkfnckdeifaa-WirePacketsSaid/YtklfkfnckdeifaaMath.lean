/-
  Plain facts about words of 32 bits and sets as bit vectors of 128 bits. No program in sight.
  Plain facts about how many bits a set has.
  Sets as words: how many, of unions and meets.
  Sets as words: one bit put in or turned, by its place; the set of a row.
  Sets as words: a bit turned, and how many there are.
-/
import Derived.WalkKit
import Derived.Lib.BitFns
import Derived.Lib.Tables
section
namespace Go.Proofs.Ytklfkfnckdeifaa
set_option linter.unusedSimpArgs false
set_option linter.unusedVariables false
open Go.RowKit
namespace Ear

/-- The word k of a set. -/
def wd (v : BitVec 128) (k : Nat) : Int := ((v.extractLsb' (32 * k) 32).toNat : Int)
/-- The ids below 100. -/
def M100 : BitVec 128 := BitVec.ofNat 128 (2 ^ 100 - 1)
def clean (v : BitVec 128) : BitVec 128 := v &&& M100
/-- The ids below n. -/
def full (n : Nat) : BitVec 128 := BitVec.ofNat 128 (2 ^ n - 1)

theorem wd_lo (v : BitVec 128) (k : Nat) : 0 ≤ wd v k := by unfold wd; omega
theorem wd_hi (v : BitVec 128) (k : Nat) : wd v k < 4294967296 := by unfold wd; have := (v.extractLsb' (32 * k) 32).isLt; omega

theorem ofInt_toNat32 (x : BitVec 32) : BitVec.ofInt 32 (x.toNat : Int) = x := by
  apply BitVec.eq_of_toNat_eq
  rw [BitVec.toNat_ofInt]
  have := x.isLt
  omega
theorem wrap32_toNat (x : BitVec 32) : IntKind.u32.wrap (x.toNat : Int) = (x.toNat : Int) := by
  have := x.isLt
  have e : (x.toNat : Int) % 4294967296 = (x.toNat : Int) := by omega
  simp [IntKind.wrap, IntKind.bits, IntKind.signed, e]

theorem bits_and (x y : BitVec 32) : Go.bits .and .u32 (x.toNat : Int) (y.toNat : Int) = ((x &&& y).toNat : Int) := by
  show IntKind.u32.wrap (((BitVec.ofInt 32 (x.toNat : Int) &&& BitVec.ofInt 32 (y.toNat : Int)).toNat : Nat) : Int) = _
  rw [ofInt_toNat32, ofInt_toNat32]
  exact wrap32_toNat _
theorem bits_or (x y : BitVec 32) : Go.bits .or .u32 (x.toNat : Int) (y.toNat : Int) = ((x ||| y).toNat : Int) := by
  show IntKind.u32.wrap (((BitVec.ofInt 32 (x.toNat : Int) ||| BitVec.ofInt 32 (y.toNat : Int)).toNat : Nat) : Int) = _
  rw [ofInt_toNat32, ofInt_toNat32]
  exact wrap32_toNat _
theorem bits_xor (x y : BitVec 32) : Go.bits .xor .u32 (x.toNat : Int) (y.toNat : Int) = ((x ^^^ y).toNat : Int) := by
  show IntKind.u32.wrap (((BitVec.ofInt 32 (x.toNat : Int) ^^^ BitVec.ofInt 32 (y.toNat : Int)).toNat : Nat) : Int) = _
  rw [ofInt_toNat32, ofInt_toNat32]
  exact wrap32_toNat _
theorem bits_andNot (x y : BitVec 32) : Go.bits .andNot .u32 (x.toNat : Int) (y.toNat : Int) = ((x &&& ~~~y).toNat : Int) := by
  show IntKind.u32.wrap (((BitVec.ofInt 32 (x.toNat : Int) &&& ~~~(BitVec.ofInt 32 (y.toNat : Int))).toNat : Nat) : Int) = _
  rw [ofInt_toNat32, ofInt_toNat32]
  exact wrap32_toNat _

theorem ext_and (a b : BitVec 128) (k : Nat) : (a &&& b).extractLsb' k 32 = a.extractLsb' k 32 &&& b.extractLsb' k 32 := by
  ext i hi; simp
theorem ext_or (a b : BitVec 128) (k : Nat) : (a ||| b).extractLsb' k 32 = a.extractLsb' k 32 ||| b.extractLsb' k 32 := by
  ext i hi; simp
theorem ext_xor (a b : BitVec 128) (k : Nat) : (a ^^^ b).extractLsb' k 32 = a.extractLsb' k 32 ^^^ b.extractLsb' k 32 := by
  ext i hi; simp
theorem ext_andNot (a b : BitVec 128) (k : Nat) (hk : k + 32 ≤ 128) : (a &&& ~~~b).extractLsb' k 32 = a.extractLsb' k 32 &&& ~~~(b.extractLsb' k 32) := by
  ext i hi
  have : k + i < 128 := by omega
  simp [this]

theorem wd_and (a b : BitVec 128) (k : Nat) : Go.bits .and .u32 (wd a k) (wd b k) = wd (a &&& b) k := by unfold wd; rw [bits_and, ext_and]
theorem wd_or (a b : BitVec 128) (k : Nat) : Go.bits .or .u32 (wd a k) (wd b k) = wd (a ||| b) k := by unfold wd; rw [bits_or, ext_or]
theorem wd_xor (a b : BitVec 128) (k : Nat) : Go.bits .xor .u32 (wd a k) (wd b k) = wd (a ^^^ b) k := by unfold wd; rw [bits_xor, ext_xor]
theorem wd_andNot (a b : BitVec 128) (k : Nat) (hk : k < 4) : Go.bits .andNot .u32 (wd a k) (wd b k) = wd (a &&& ~~~b) k := by unfold wd; rw [bits_andNot, ext_andNot _ _ _ (by omega)]

theorem wd_inj {a b : BitVec 128} (h0 : wd a 0 = wd b 0) (h1 : wd a 1 = wd b 1) (h2 : wd a 2 = wd b 2) (h3 : wd a 3 = wd b 3) : a = b := by
  have key : ∀ k, k < 4 → a.extractLsb' (32 * k) 32 = b.extractLsb' (32 * k) 32 := by
    intro k hk
    have h : wd a k = wd b k := by
      have : k = 0 ∨ k = 1 ∨ k = 2 ∨ k = 3 := by omega
      rcases this with rfl | rfl | rfl | rfl <;> assumption
    unfold wd at h
    exact BitVec.eq_of_toNat_eq (by omega)
  apply BitVec.eq_of_getLsbD_eq
  intro i hi
  have h := congrArg (fun x => x.getLsbD (i % 32)) (key (i / 32) (by omega))
  simp only [BitVec.getLsbD_extractLsb'] at h
  rw [show 32 * (i / 32) + i % 32 = i by omega] at h
  simpa [show i % 32 < 32 by omega] using h

/-- Four words make a set. -/
theorem wd_of_words (c0 c1 c2 c3 : Int) (h0 : 0 ≤ c0 ∧ c0 < 4294967296) (h1 : 0 ≤ c1 ∧ c1 < 4294967296) (h2 : 0 ≤ c2 ∧ c2 < 4294967296) (h3 : 0 ≤ c3 ∧ c3 < 4294967296) :
    ∃ v : BitVec 128, c0 = wd v 0 ∧ c1 = wd v 1 ∧ c2 = wd v 2 ∧ c3 = wd v 3 := by
  refine ⟨BitVec.ofNat 128 (c0.toNat + 4294967296 * (c1.toNat + 4294967296 * (c2.toNat + 4294967296 * c3.toNat))), ?_, ?_, ?_, ?_⟩
  all_goals
    unfold wd
    rw [BitVec.extractLsb'_toNat, BitVec.toNat_ofNat, Nat.shiftRight_eq_div_pow]
    omega

/-- The bit i, by the word i / 32. -/
theorem wd_bit (v : BitVec 128) (i : Nat) (hi : i < 128) : (wd v (i / 32) / 2 ^ (i % 32)) % 2 = if v.getLsbD i then 1 else 0 := by
  unfold wd
  have e : v.getLsbD i = (v.extractLsb' (32 * (i / 32)) 32).getLsbD (i % 32) := by
    rw [BitVec.getLsbD_extractLsb', show 32 * (i / 32) + i % 32 = i by omega]
    simp [show i % 32 < 32 by omega]
  rw [e, ← BitVec.testBit_toNat, Nat.testBit_eq_decide_div_mod_eq]
  have h2 : ((2 : Int) ^ (i % 32)) = ((2 ^ (i % 32) : Nat) : Int) := by simp
  rw [h2]
  generalize (v.extractLsb' (32 * (i / 32)) 32).toNat = x
  generalize 2 ^ (i % 32) = p
  have : ((x : Int) / (p : Int)) % 2 = ((x / p % 2 : Nat) : Int) := by simp
  rw [this]
  have h := Nat.mod_two_eq_zero_or_one (x / p)
  rcases h with h | h <;> simp [h]

/-- '& 1' of a word that is none of the greatest. -/
theorem bits_and_one (x : Int) (h0 : 0 ≤ x) (h1 : x < 4294967296) : Go.bits .and .u32 x 1 = x % 2 := by
  have e : x = ((BitVec.ofNat 32 x.toNat).toNat : Int) := by rw [BitVec.toNat_ofNat, Nat.mod_eq_of_lt (by omega)]; omega
  have h := bits_and (BitVec.ofNat 32 x.toNat) 1#32
  rw [← e] at h
  have o : ((1#32).toNat : Int) = 1 := rfl
  rw [o] at h
  rw [h, BitVec.toNat_and]
  have : (1#32).toNat = 1 := rfl
  rw [this, Nat.and_one_is_mod, BitVec.toNat_ofNat, Nat.mod_eq_of_lt (show x.toNat < 2 ^ 32 by omega)]
  omega

theorem div_pow_bd (x : Int) (n : Nat) (h0 : 0 ≤ x) (h1 : x < 4294967296) : 0 ≤ x / 2 ^ n ∧ x / 2 ^ n < 4294967296 := by
  have hp : (0 : Int) < 2 ^ n := Int.pow_pos (by decide)
  refine ⟨Int.ediv_nonneg h0 (Int.le_of_lt hp), Int.lt_of_le_of_lt (Int.ediv_le_self _ h0) h1⟩

/-- The test of a bit, as the walk writes it. -/
theorem has_bit (v : BitVec 128) (i : Int) (h0 : 0 ≤ i) (h1 : i < 128) :
    (Go.bits .and .u32 (wd v (i / 32).toNat / 2 ^ (i % 32).toNat) 1 == 1) = v.getLsbD i.toNat := by
  obtain ⟨k, rfl⟩ := Int.eq_ofNat_of_zero_le h0
  have e1 : ((k : Int) / 32).toNat = k / 32 := by omega
  have e2 : ((k : Int) % 32).toNat = k % 32 := by omega
  rw [e1, e2, Int.toNat_natCast]
  obtain ⟨b0, b1⟩ := div_pow_bd (wd v (k / 32)) (k % 32) (wd_lo _ _) (wd_hi _ _)
  rw [bits_and_one _ b0 b1, wd_bit v k (by omega)]
  cases v.getLsbD k <;> rfl

theorem full_toNat (n : Nat) (h : n ≤ 100) : (full n).toNat = 2 ^ n - 1 := by
  unfold full
  rw [BitVec.toNat_ofNat, Nat.mod_eq_of_lt]
  have h1 : 2 ^ n ≤ 2 ^ 100 := Nat.pow_le_pow_right (by omega) h
  omega
theorem full_bit (n i : Nat) (h : n ≤ 100) : (full n).getLsbD i = decide (i < n) := by
  rw [← BitVec.testBit_toNat, full_toNat n h, Nat.testBit_two_pow_sub_one]
theorem wd_eq_of_bits {v : BitVec 128} {k : Nat} {x : BitVec 32} (h : ∀ i, i < 32 → v.getLsbD (32 * k + i) = x.getLsbD i) : wd v k = (x.toNat : Int) := by
  unfold wd
  refine congrArg (fun y : BitVec 32 => (y.toNat : Int)) ?_
  apply BitVec.eq_of_getLsbD_eq
  intro i hi
  rw [BitVec.getLsbD_extractLsb', h i hi]
  simp [hi]
theorem full_hi (n k : Nat) (h : n ≤ 100) (hk : 32 * k + 32 ≤ n) : wd (full n) k = 4294967295 :=
  wd_eq_of_bits (x := BitVec.allOnes 32) (fun i hi => by rw [full_bit _ _ h, BitVec.getLsbD_allOnes]; simp only [decide_eq_decide]; omega)
theorem full_lo (n k : Nat) (h : n ≤ 100) (hk : n ≤ 32 * k) : wd (full n) k = 0 :=
  wd_eq_of_bits (x := 0#32) (fun i hi => by rw [full_bit _ _ h]; simp; omega)
theorem full_mid (n k m : Nat) (h : n ≤ 100) (hm : n = 32 * k + m) (hm2 : m ≤ 32) : wd (full n) k = (2 ^ m - 1) % 4294967296 := by
  have e : (2 ^ m - 1) % 4294967296 = (((BitVec.ofNat 32 (2 ^ m - 1)).toNat : Nat) : Int) := by
    rw [BitVec.toNat_ofNat]
    have h1 : 1 ≤ 2 ^ m := Nat.one_le_two_pow
    have h2 : ((2 : Int) ^ m) = ((2 ^ m : Nat) : Int) := by simp
    rw [h2]
    generalize 2 ^ m = p at *
    omega
  rw [e]
  refine wd_eq_of_bits fun i hi => ?_
  rw [full_bit _ _ h, ← BitVec.testBit_toNat, BitVec.toNat_ofNat]
  have h3 : (2 ^ m - 1) % 2 ^ 32 = 2 ^ m - 1 := Nat.mod_eq_of_lt (by
    have : 2 ^ m ≤ 2 ^ 32 := Nat.pow_le_pow_right (by omega) hm2
    have h1 : 1 ≤ 2 ^ m := Nat.one_le_two_pow
    omega)
  rw [h3, Nat.testBit_two_pow_sub_one]
  simp only [decide_eq_decide]
  omega
theorem clean_eq (v : BitVec 128) : v &&& full 100 = clean v := rfl
theorem clean_bit (v : BitVec 128) (i : Nat) : (clean v).getLsbD i = (v.getLsbD i && decide (i < 100)) := by
  rw [← clean_eq, BitVec.getLsbD_and, full_bit _ _ (Nat.le_refl _)]
theorem run_part_int {P : Program} {e : TypeId} {k : IntKind} (he : P.underlying e = some (.int k)) (cs : Array Value) (i : Nat) (v : Value) (hv : cs[i]? = some v) (w : World) : (part e cs i).run P w = .ok v w := by
  have ha : (isAgg e).run P w = .ok false w := by
    unfold isAgg
    rw [Sem.run_bind, run_underlying he w]
    simp
  simp [part, Sem.run_bind, ha, hv]
theorem run_equal_set {P : Program} {t e : TypeId} (ht : P.underlying t = some (.array 4 e)) (he : P.underlying e = some (.int .u32)) (hs : (P.info? e).map (·.size) = some 1) (a0 a1 a2 a3 b0 b1 b2 b3 : Int) (w : World) :
    (Op.equalIn 10000 t (.agg #[.int .u32 a0, .int .u32 a1, .int .u32 a2, .int .u32 a3]) (.agg #[.int .u32 b0, .int .u32 b1, .int .u32 b2, .int .u32 b3])).run P w = .ok (a0 == b0 && a1 == b1 && a2 == b2 && a3 == b3) w := by
  have hsz : ∀ w, (sizeOf e).run P w = .ok 1 w := by
    intro w
    cases hq : P.info? e with
    | none => simp [hq] at hs
    | some i => simp [hq] at hs; simp [sizeOf, typeInfo, hq, hs]
  have hp : ∀ (cs : Array Value) (i : Nat) (v : Value), cs[i]? = some v → ∀ w, (part e cs i).run P w = .ok v w := fun cs i v hv w => run_part_int he cs i v hv w
  have hi : ∀ (a b : Int) w, (Op.equalIn 9999 e (.int .u32 a) (.int .u32 b)).run P w = .ok (a == b) w := fun a b w => run_equalIn_int w 9998 e .u32 .u32 a b he
  rw [show (10000 : Nat) = 9999 + 1 from rfl]
  unfold Op.equalIn
  simp only [Sem.run_bind, run_underlying ht, Result.andThen_ok, hsz]
  simp only [Std.Legacy.Range.forIn_eq_forIn_range', Std.Legacy.Range.size]
  rw [show List.range' 0 ((4 - 0 + 1 - 1) / 1) = [0, 1, 2, 3] from rfl]
  have q0 := fun w => hp #[.int .u32 a0, .int .u32 a1, .int .u32 a2, .int .u32 a3] 0 (.int .u32 a0) rfl w
  have q1 := fun w => hp #[.int .u32 a0, .int .u32 a1, .int .u32 a2, .int .u32 a3] 1 (.int .u32 a1) rfl w
  have q2 := fun w => hp #[.int .u32 a0, .int .u32 a1, .int .u32 a2, .int .u32 a3] 2 (.int .u32 a2) rfl w
  have q3 := fun w => hp #[.int .u32 a0, .int .u32 a1, .int .u32 a2, .int .u32 a3] 3 (.int .u32 a3) rfl w
  have r0 := fun w => hp #[.int .u32 b0, .int .u32 b1, .int .u32 b2, .int .u32 b3] 0 (.int .u32 b0) rfl w
  have r1 := fun w => hp #[.int .u32 b0, .int .u32 b1, .int .u32 b2, .int .u32 b3] 1 (.int .u32 b1) rfl w
  have r2 := fun w => hp #[.int .u32 b0, .int .u32 b1, .int .u32 b2, .int .u32 b3] 2 (.int .u32 b2) rfl w
  have r3 := fun w => hp #[.int .u32 b0, .int .u32 b1, .int .u32 b2, .int .u32 b3] 3 (.int .u32 b3) rfl w
  simp only [List.forIn_cons, List.forIn_nil, Sem.run_bind, Nat.mul_one, q0, q1, q2, q3, r0, r1, r2, r3, hi, Result.andThen_ok]
  cases h0 : (a0 == b0) <;> simp only [Bool.not_true, Bool.not_false, if_true, if_false, Bool.false_eq_true, Sem.run_pure, Result.andThen_ok, Bool.false_and, Bool.true_and, Sem.run_bind, q0, q1, q2, q3, r0, r1, r2, r3, hi]
  cases h1 : (a1 == b1) <;> simp only [Bool.not_true, Bool.not_false, if_true, if_false, Bool.false_eq_true, Sem.run_pure, Result.andThen_ok, Bool.false_and, Bool.true_and, Sem.run_bind, q0, q1, q2, q3, r0, r1, r2, r3, hi]
  cases h2 : (a2 == b2) <;> simp only [Bool.not_true, Bool.not_false, if_true, if_false, Bool.false_eq_true, Sem.run_pure, Result.andThen_ok, Bool.false_and, Bool.true_and, Sem.run_bind, q0, q1, q2, q3, r0, r1, r2, r3, hi]
  cases h3 : (a3 == b3) <;> simp only [Bool.not_true, Bool.not_false, if_true, if_false, Bool.false_eq_true, Sem.run_pure, Result.andThen_ok, Bool.false_and, Bool.true_and, Sem.run_bind, q0, q1, q2, q3, r0, r1, r2, r3, hi]
theorem beq_words (a b : BitVec 128) : (wd a 0 == wd b 0 && wd a 1 == wd b 1 && wd a 2 == wd b 2 && wd a 3 == wd b 3) = decide (a = b) := by
  by_cases h : a = b
  · subst h; simp
  · rw [decide_eq_false h]
    rw [Bool.eq_false_iff]
    intro hc
    simp only [Bool.and_eq_true, beq_iff_eq] at hc
    exact h (wd_inj hc.1.1.1 hc.1.1.2 hc.1.2 hc.2)
theorem beq_zero (a : BitVec 128) : (wd a 0 == 0 && wd a 1 == 0 && wd a 2 == 0 && wd a 3 == 0) = decide (a = 0#128) := by
  have h := beq_words a 0#128
  have z : ∀ k, wd 0#128 k = 0 := fun k => by unfold wd; simp
  simp only [z] at h
  exact h
/-- A number held within the ids. -/
def clampN (n : Int) : Nat := if n < 0 then 0 else if 100 < n then 100 else n.toNat
theorem wd_zero (k : Nat) : wd 0#128 k = 0 := by unfold wd; simp
theorem sel (v : BitVec 128) (k : Nat) (h : k < 4) : [Value.int .u32 (wd v 0), .int .u32 (wd v 1), .int .u32 (wd v 2), .int .u32 (wd v 3)][k]? = some (.int .u32 (wd v k)) := by
  have : k = 0 ∨ k = 1 ∨ k = 2 ∨ k = 3 := by omega
  rcases this with rfl | rfl | rfl | rfl <;> rfl

/-- The id i alone. -/
def one (i : Nat) : BitVec 128 := BitVec.twoPow 128 i
theorem one_bit (i j : Nat) : (one i).getLsbD j = (decide (i < 128) && decide (j = i)) := by
  unfold one
  rw [BitVec.getLsbD_twoPow]
  congr 1
  simp only [decide_eq_decide]
  exact eq_comm
theorem wd_one_same (i : Nat) (h : i < 128) : wd (one i) (i / 32) = 2 ^ (i % 32) := by
  have e : ((2 : Int) ^ (i % 32)) = (((BitVec.twoPow 32 (i % 32)).toNat : Nat) : Int) := by
    rw [BitVec.toNat_twoPow, Nat.mod_eq_of_lt (Nat.pow_lt_pow_right (by omega) (by omega))]
    simp
  rw [e]
  refine wd_eq_of_bits fun j hj => ?_
  rw [one_bit, BitVec.getLsbD_twoPow]
  have h1 : i % 32 < 32 := by omega
  simp only [h, h1, decide_true, Bool.true_and, decide_eq_decide]
  omega
theorem wd_one_other (i k : Nat) (h : i / 32 ≠ k) : wd (one i) k = 0 :=
  wd_eq_of_bits (x := 0#32) (fun j hj => by
    rw [one_bit]
    simp
    omega)
theorem pow_mod (i : Nat) (h : i < 32) : (2 : Int) ^ i % 4294967296 = 2 ^ i := by
  have h1 : (2 : Nat) ^ i < 2 ^ 32 := Nat.pow_lt_pow_right (by omega) h
  have h2 : ((2 : Int) ^ i) = ((2 ^ i : Nat) : Int) := by simp
  rw [h2]
  generalize 2 ^ i = p at *
  omega
theorem or_same (c : BitVec 128) (i k : Nat) (h : i < 128) (hk : i / 32 = k) : Go.bits .or .u32 (wd c k) (2 ^ (i % 32) % 4294967296) = wd (c ||| one i) k := by
  subst hk
  rw [pow_mod _ (by omega), ← wd_one_same i h, wd_or]
theorem andNot_same (c : BitVec 128) (i k : Nat) (h : i < 128) (hk : i / 32 = k) : Go.bits .andNot .u32 (wd c k) (2 ^ (i % 32) % 4294967296) = wd (c &&& ~~~(one i)) k := by
  subst hk
  rw [pow_mod _ (by omega), ← wd_one_same i h, wd_andNot _ _ _ (by omega)]
theorem xor_same (c : BitVec 128) (i k : Nat) (h : i < 128) (hk : i / 32 = k) : Go.bits .xor .u32 (wd c k) (2 ^ (i % 32) % 4294967296) = wd (c ^^^ one i) k := by
  subst hk
  rw [pow_mod _ (by omega), ← wd_one_same i h, wd_xor]
theorem and_not_zero (x : BitVec 32) : x &&& ~~~0#32 = x := by
  have h : ~~~(0#32) = BitVec.allOnes 32 := by decide
  rw [h, BitVec.and_allOnes]
theorem ext_one_zero (i k : Nat) (h : i / 32 ≠ k) : (one i).extractLsb' (32 * k) 32 = 0#32 := by
  have := wd_one_other i k h
  unfold wd at this
  exact BitVec.eq_of_toNat_eq (by rw [BitVec.toNat_ofNat]; omega)
theorem or_other (c : BitVec 128) (i k : Nat) (h : i / 32 ≠ k) : wd (c ||| one i) k = wd c k := by
  unfold wd; rw [ext_or, ext_one_zero i k h]; simp
theorem andNot_other (c : BitVec 128) (i k : Nat) (h : i / 32 ≠ k) (hk : k < 4) : wd (c &&& ~~~(one i)) k = wd c k := by
  unfold wd; rw [ext_andNot _ _ _ (by omega), ext_one_zero i k h, and_not_zero]
theorem xor_other (c : BitVec 128) (i k : Nat) (h : i / 32 ≠ k) : wd (c ^^^ one i) k = wd c k := by
  unfold wd; rw [ext_xor, ext_one_zero i k h]; simp

/-- The number of a set, by its words. -/
theorem toNat_words (v : BitVec 128) : (v.toNat : Int) = wd v 0 + 4294967296 * (wd v 1 + 4294967296 * (wd v 2 + 4294967296 * wd v 3)) := by
  unfold wd
  simp only [BitVec.extractLsb'_toNat, Nat.shiftRight_eq_div_pow]
  have := v.isLt
  omega
/-- The order of two sets without bits of no id: as numbers. -/
def ordI (x y : BitVec 128) : Int := if x.toNat < y.toNat then -1 else if y.toNat < x.toNat then 1 else 0
theorem ordI_lt {x y : BitVec 128} (h : (x.toNat : Int) < y.toNat) : ordI x y = -1 := by unfold ordI; rw [if_pos (by omega)]
theorem ordI_gt {x y : BitVec 128} (h : (y.toNat : Int) < x.toNat) : ordI x y = 1 := by unfold ordI; rw [if_neg (by omega), if_pos (by omega)]
theorem ordI_eq {x y : BitVec 128} (h : (x.toNat : Int) = y.toNat) : ordI x y = 0 := by unfold ordI; rw [if_neg (by omega), if_neg (by omega)]
/-- Words from the greatest down: the first that parts decides. -/
theorem words_lt {a b : BitVec 128} (h : wd a 3 < wd b 3 ∨ (wd a 3 = wd b 3 ∧ (wd a 2 < wd b 2 ∨ (wd a 2 = wd b 2 ∧ (wd a 1 < wd b 1 ∨ (wd a 1 = wd b 1 ∧ wd a 0 < wd b 0)))))) : (a.toNat : Int) < b.toNat := by
  have l0 := wd_lo a 0; have l1 := wd_lo a 1; have l2 := wd_lo a 2; have l3 := wd_lo a 3
  have m0 := wd_lo b 0; have m1 := wd_lo b 1; have m2 := wd_lo b 2; have m3 := wd_lo b 3
  have u0 := wd_hi a 0; have u1 := wd_hi a 1; have u2 := wd_hi a 2; have u3 := wd_hi a 3
  have v0 := wd_hi b 0; have v1 := wd_hi b 1; have v2 := wd_hi b 2; have v3 := wd_hi b 3
  rw [toNat_words, toNat_words]
  omega
theorem words_eq {a b : BitVec 128} (h : wd a 3 = wd b 3 ∧ wd a 2 = wd b 2 ∧ wd a 1 = wd b 1 ∧ wd a 0 = wd b 0) : (a.toNat : Int) = b.toNat := by
  rw [toNat_words, toNat_words]
  omega
end Ear
end Go.Proofs.Ytklfkfnckdeifaa
end
section
namespace Go.Proofs.Ytklfkfnckdeifaa
set_option linter.unusedSimpArgs false
set_option linter.unusedVariables false
open Go.RowKit
namespace Ear
theorem bits_and_255 (x : Int) (h0 : 0 ≤ x) (h1 : x < 4294967296) : Go.bits .and .u32 x 255 = x % 256 := by
  have e : x = ((BitVec.ofNat 32 x.toNat).toNat : Int) := by rw [BitVec.toNat_ofNat, Nat.mod_eq_of_lt (by omega)]; omega
  have h := bits_and (BitVec.ofNat 32 x.toNat) 255#32
  rw [← e] at h
  have o : ((255#32).toNat : Int) = 255 := rfl
  rw [o] at h
  rw [h, BitVec.toNat_and]
  have : (255#32).toNat = 2 ^ 8 - 1 := rfl
  rw [this, Nat.and_two_pow_sub_one_eq_mod, BitVec.toNat_ofNat, Nat.mod_eq_of_lt (show x.toNat < 2 ^ 32 by omega)]
  omega

/-- How many of the numbers below n have it. -/
def cnt (n : Nat) (p : Nat → Bool) : Nat := (List.range n).countP p
theorem cnt_add (m n : Nat) (p : Nat → Bool) : cnt (m + n) p = cnt m p + cnt n (fun i => p (m + i)) := by
  unfold cnt
  rw [List.range_add, List.countP_append, List.countP_map]
  rfl
theorem cnt_congr (n : Nat) {p q : Nat → Bool} (h : ∀ i, i < n → p i = q i) : cnt n p = cnt n q := by
  unfold cnt
  exact List.countP_congr (fun i hi => by rw [h i (List.mem_range.1 hi)])
theorem cnt_le (n : Nat) (p : Nat → Bool) : cnt n p ≤ n := by
  have := List.countP_le_length (p := p) (l := List.range n)
  rw [List.length_range] at this
  exact this
theorem pop8_cnt : ∀ n : Fin 256, Lib.pop8 (n.val : Int) = ((cnt 8 (fun i => n.val.testBit i) : Nat) : Int) := by decide +kernel

/-- How many bits the word k of a set has. -/
def cw (v : BitVec 128) (k : Nat) : Nat := cnt 32 (fun i => v.getLsbD (32 * k + i))
/-- How many bits a set has. -/
def cnt128 (v : BitVec 128) : Nat := cnt 128 v.getLsbD
theorem cnt_four (p : Nat → Bool) : cnt 128 p = cnt 32 (fun i => p (32 * 0 + i)) + cnt 32 (fun i => p (32 * 1 + i)) + cnt 32 (fun i => p (32 * 2 + i)) + cnt 32 (fun i => p (32 * 3 + i)) := by
  rw [show (128 : Nat) = 32 + (32 + (32 + 32)) from rfl, cnt_add, cnt_add, cnt_add]
  have e0 : cnt 32 p = cnt 32 (fun i => p (32 * 0 + i)) := cnt_congr 32 (fun i _ => by rw [show 32 * 0 + i = i by omega])
  have e1 : cnt 32 (fun i => p (32 + (32 + i))) = cnt 32 (fun i => p (32 * 2 + i)) := cnt_congr 32 (fun i _ => by rw [show 32 + (32 + i) = 32 * 2 + i by omega])
  have e2 : cnt 32 (fun i => p (32 + (32 + (32 + i)))) = cnt 32 (fun i => p (32 * 3 + i)) := cnt_congr 32 (fun i _ => by rw [show 32 + (32 + (32 + i)) = 32 * 3 + i by omega])
  have e3 : cnt 32 (fun i => p (32 + i)) = cnt 32 (fun i => p (32 * 1 + i)) := cnt_congr 32 (fun i _ => by rw [show 32 + i = 32 * 1 + i by omega])
  rw [e0, e1, e2, e3]
  omega
theorem cnt128_words (v : BitVec 128) : cnt128 v = cw v 0 + cw v 1 + cw v 2 + cw v 3 := cnt_four v.getLsbD

theorem pop8_byte (x j : Nat) : Lib.pop8 (((x / 2 ^ (8 * j) % 256 : Nat)) : Int) = ((cnt 8 (fun i => x.testBit (8 * j + i)) : Nat) : Int) := by
  have h := pop8_cnt ⟨x / 2 ^ (8 * j) % 256, Nat.mod_lt _ (by omega)⟩
  simp only at h
  rw [h]
  refine congrArg Nat.cast (cnt_congr 8 fun i hi => ?_)
  rw [show (256 : Nat) = 2 ^ 8 from rfl, Nat.testBit_mod_two_pow, Nat.testBit_div_two_pow]
  simp [hi, Nat.add_comm]

/-- The sum that OnesCount32 makes. -/
theorem pop32 (v : BitVec 128) (k : Nat) :
    (Lib.pop8 (wd v k / 16777216) + Lib.pop8 (wd v k / 65536 % 256) + Lib.pop8 (wd v k / 256 % 256) + Lib.pop8 (wd v k % 256)) % 256 = ((cw v k : Nat) : Int) := by
  have hx : ∃ x : Nat, wd v k = (x : Int) ∧ x < 4294967296 ∧ ∀ i, i < 32 → x.testBit i = v.getLsbD (32 * k + i) := by
    refine ⟨(v.extractLsb' (32 * k) 32).toNat, rfl, (v.extractLsb' (32 * k) 32).isLt, fun i hi => ?_⟩
    rw [BitVec.testBit_toNat, BitVec.getLsbD_extractLsb']
    simp [hi]
  obtain ⟨x, hw, hlt, hb⟩ := hx
  rw [hw]
  have e3 : ((x : Int) / 16777216) = ((x / 2 ^ (8 * 3) % 256 : Nat) : Int) := by simp only [Nat.reduceMul, Nat.reducePow]; omega
  have e2 : ((x : Int) / 65536 % 256) = ((x / 2 ^ (8 * 2) % 256 : Nat) : Int) := by simp only [Nat.reduceMul, Nat.reducePow]; omega
  have e1 : ((x : Int) / 256 % 256) = ((x / 2 ^ (8 * 1) % 256 : Nat) : Int) := by simp only [Nat.reduceMul, Nat.reducePow]; omega
  have e0 : ((x : Int) % 256) = ((x / 2 ^ (8 * 0) % 256 : Nat) : Int) := by simp only [Nat.mul_zero, Nat.pow_zero]; omega
  rw [e3, e2, e1, e0, pop8_byte, pop8_byte, pop8_byte, pop8_byte]
  have hc : cw v k = cnt 8 (fun i => x.testBit (8 * 0 + i)) + (cnt 8 (fun i => x.testBit (8 * 1 + i)) + (cnt 8 (fun i => x.testBit (8 * 2 + i)) + cnt 8 (fun i => x.testBit (8 * 3 + i)))) := by
    unfold cw
    rw [show (32 : Nat) = 8 + (8 + (8 + 8)) from rfl, cnt_add, cnt_add, cnt_add]
    congr 1
    · exact cnt_congr 8 fun i hi => by rw [← hb _ (by omega)]; simp
    · congr 1
      · exact cnt_congr 8 fun i hi => by rw [← hb _ (by omega)]
      · congr 1
        · exact cnt_congr 8 fun i hi => by rw [← hb _ (by omega)]; rw [show 8 + (8 + i) = 8 * 2 + i by omega]
        · exact cnt_congr 8 fun i hi => by rw [← hb _ (by omega)]; rw [show 8 + (8 + (8 + i)) = 8 * 3 + i by omega]
  rw [hc]
  have b0 := cnt_le 8 (fun i => x.testBit (8 * 0 + i))
  have b1 := cnt_le 8 (fun i => x.testBit (8 * 1 + i))
  have b2 := cnt_le 8 (fun i => x.testBit (8 * 2 + i))
  have b3 := cnt_le 8 (fun i => x.testBit (8 * 3 + i))
  omega
end Ear
end Go.Proofs.Ytklfkfnckdeifaa
end
section
namespace Go.Proofs.Ytklfkfnckdeifaa
set_option linter.unusedSimpArgs false
set_option linter.unusedVariables false
open Go.RowKit
namespace Ear
theorem countP_or_and (p q : Nat → Bool) : ∀ l : List Nat, l.countP (fun i => p i || q i) + l.countP (fun i => p i && q i) = l.countP p + l.countP q
  | [] => rfl
  | x :: l => by
    have := countP_or_and p q l
    simp only [List.countP_cons]
    cases p x <;> cases q x <;> simp <;> omega
theorem cnt_or_and (n : Nat) (p q : Nat → Bool) : cnt n (fun i => p i || q i) + cnt n (fun i => p i && q i) = cnt n p + cnt n q := countP_or_and p q _
theorem clean_clean (v : BitVec 128) : clean (clean v) = clean v := by unfold clean; rw [BitVec.and_assoc, BitVec.and_self]
theorem cnt_union_meet (a b : BitVec 128) : cnt128 (clean (a ||| b)) + cnt128 (clean (a &&& b)) = cnt128 (clean a) + cnt128 (clean b) := by
  unfold cnt128
  rw [← cnt_or_and 128 (clean a).getLsbD (clean b).getLsbD]
  congr 1
  · apply cnt_congr; intro i hi; simp only [clean, BitVec.getLsbD_and, BitVec.getLsbD_or]; cases a.getLsbD i <;> cases b.getLsbD i <;> cases M100.getLsbD i <;> rfl
  · apply cnt_congr; intro i hi; simp only [clean, BitVec.getLsbD_and, BitVec.getLsbD_or]; cases a.getLsbD i <;> cases b.getLsbD i <;> cases M100.getLsbD i <;> rfl
theorem cnt_zero : cnt128 0#128 = 0 := by decide
theorem cnt_le128 (v : BitVec 128) : cnt128 v ≤ 128 := cnt_le 128 _
end Ear
end Go.Proofs.Ytklfkfnckdeifaa
end
section
namespace Go.Proofs.Ytklfkfnckdeifaa
set_option linter.unusedSimpArgs false
set_option linter.unusedVariables false
open Go.RowKit
namespace Ear
theorem set_or (c : BitVec 128) (k : Nat) (h : k < 128) : List.set ([.int .u32 (wd (c) 0), .int .u32 (wd (c) 1), .int .u32 (wd (c) 2), .int .u32 (wd (c) 3)] : List Value) (k / 32) (.int .u32 (Go.bits .or .u32 (wd c (k / 32)) (2 ^ (k % 32) % 4294967296))) = ([.int .u32 (wd (c ||| one k) 0), .int .u32 (wd (c ||| one k) 1), .int .u32 (wd (c ||| one k) 2), .int .u32 (wd (c ||| one k) 3)] : List Value) := by
  have hcase : k / 32 = 0 ∨ k / 32 = 1 ∨ k / 32 = 2 ∨ k / 32 = 3 := by omega
  rcases hcase with hk | hk | hk | hk
  all_goals
    rw [or_same c k _ h rfl]
    simp only [hk]
    simp only [List.set_cons_zero, List.set_cons_succ]
    first
      | rw [or_other c k 1 (by omega), or_other c k 2 (by omega), or_other c k 3 (by omega)]
      | rw [or_other c k 0 (by omega), or_other c k 2 (by omega), or_other c k 3 (by omega)]
      | rw [or_other c k 0 (by omega), or_other c k 1 (by omega), or_other c k 3 (by omega)]
      | rw [or_other c k 0 (by omega), or_other c k 1 (by omega), or_other c k 2 (by omega)]
theorem set_xor (c : BitVec 128) (k : Nat) (h : k < 128) : List.set ([.int .u32 (wd (c) 0), .int .u32 (wd (c) 1), .int .u32 (wd (c) 2), .int .u32 (wd (c) 3)] : List Value) (k / 32) (.int .u32 (Go.bits .xor .u32 (wd c (k / 32)) (2 ^ (k % 32) % 4294967296))) = ([.int .u32 (wd (c ^^^ one k) 0), .int .u32 (wd (c ^^^ one k) 1), .int .u32 (wd (c ^^^ one k) 2), .int .u32 (wd (c ^^^ one k) 3)] : List Value) := by
  have hcase : k / 32 = 0 ∨ k / 32 = 1 ∨ k / 32 = 2 ∨ k / 32 = 3 := by omega
  rcases hcase with hk | hk | hk | hk
  all_goals
    rw [xor_same c k _ h rfl]
    simp only [hk]
    simp only [List.set_cons_zero, List.set_cons_succ]
    first
      | rw [xor_other c k 1 (by omega), xor_other c k 2 (by omega), xor_other c k 3 (by omega)]
      | rw [xor_other c k 0 (by omega), xor_other c k 2 (by omega), xor_other c k 3 (by omega)]
      | rw [xor_other c k 0 (by omega), xor_other c k 1 (by omega), xor_other c k 3 (by omega)]
      | rw [xor_other c k 0 (by omega), xor_other c k 1 (by omega), xor_other c k 2 (by omega)]
/-- The set of a row's first n places. -/
def ofF (f : Nat → Bool) : Nat → BitVec 128
  | 0 => 0#128
  | n + 1 => if f n then ofF f n ||| one n else ofF f n
theorem ofF_bit (f : Nat → Bool) (i : Nat) : ∀ n, n ≤ 128 → (ofF f n).getLsbD i = (decide (i < n) && f i)
  | 0, _ => by simp [ofF]
  | n + 1, h => by
    have ih := ofF_bit f i n (by omega)
    unfold ofF
    by_cases hf : f n = true
    · rw [if_pos hf, BitVec.getLsbD_or, ih, one_bit]
      by_cases hi : i = n
      · subst hi
        have h1 : i < 128 := by omega
        simp [hf, h1]
      · have e : decide (i < n + 1) = decide (i < n) := by rw [decide_eq_decide]; omega
        simp [hi, e]
    · rw [if_neg hf, ih]
      by_cases hi : i = n
      · subst hi; simp [hf]
      · have e : decide (i < n + 1) = decide (i < n) := by rw [decide_eq_decide]; omega
        rw [e]
theorem ofF_eq {f : Nat → Bool} {v : BitVec 128} (h : ∀ i, i < 100 → f i = v.getLsbD i) : ofF f 100 = clean v := by
  apply BitVec.eq_of_getLsbD_eq
  intro i hi
  rw [ofF_bit f i 100 (by omega), clean_bit]
  by_cases h1 : i < 100
  · simp [h1, h i h1]
  · simp [h1]
end Ear
end Go.Proofs.Ytklfkfnckdeifaa
end
section
namespace Go.Proofs.Ytklfkfnckdeifaa
set_option linter.unusedSimpArgs false
set_option linter.unusedVariables false
open Go.RowKit
namespace Ear
theorem cnt_succ (n : Nat) (p : Nat → Bool) : cnt (n + 1) p = cnt n p + (if p n then 1 else 0) := by
  unfold cnt
  rw [List.range_succ, List.countP_append]
  simp [List.countP_cons]
theorem cnt_flip (i : Nat) {p q : Nat → Bool} (hp : p i = true) (hq : q i = false) (h : ∀ j, j ≠ i → p j = q j) : ∀ n, i < n → cnt n p = cnt n q + 1
  | 0, hi => by omega
  | n + 1, hi => by
    rw [cnt_succ, cnt_succ]
    by_cases hn : n = i
    · subst hn
      rw [cnt_congr n (p := p) (q := q) (fun j hj => h j (by omega)), hp, hq]
      simp
    · rw [cnt_flip i hp hq h n (by omega), h n hn]
      omega
theorem xor_bit (v : BitVec 128) (i j : Nat) (hi : i < 128) : (v ^^^ one i).getLsbD j = (v.getLsbD j ^^ decide (j = i)) := by
  rw [BitVec.getLsbD_xor, one_bit]; simp [hi]
theorem cnt_turn_on (v : BitVec 128) (i : Nat) (hi : i < 100) (hv : v.getLsbD i = false) : cnt128 (clean (v ^^^ one i)) = cnt128 (clean v) + 1 := by
  unfold cnt128
  apply cnt_flip i _ _ _ 128 (by omega)
  · rw [clean_bit, xor_bit v i i (by omega)]; simp [hv, hi]
  · rw [clean_bit, hv]; rfl
  · intro j hj; rw [clean_bit, clean_bit, xor_bit v i j (by omega)]; simp [hj]
theorem cnt_turn_off (v : BitVec 128) (i : Nat) (hi : i < 100) (hv : v.getLsbD i = true) : cnt128 (clean v) = cnt128 (clean (v ^^^ one i)) + 1 := by
  unfold cnt128
  apply cnt_flip i _ _ _ 128 (by omega)
  · rw [clean_bit, hv]; simp [hi]
  · rw [clean_bit, xor_bit v i i (by omega)]; simp [hv]
  · intro j hj; rw [clean_bit, clean_bit, xor_bit v i j (by omega)]; simp [hj]
theorem clean_turn (v : BitVec 128) (i : Nat) (h : 100 ≤ i) (hi : i < 128) : clean (v ^^^ one i) = clean v := by
  apply BitVec.eq_of_getLsbD_eq
  intro j hj
  rw [clean_bit, clean_bit, xor_bit v i j hi]
  by_cases h1 : j < 100
  · have : ¬ j = i := by omega
    simp [this]
  · simp [h1]
end Ear
end Go.Proofs.Ytklfkfnckdeifaa
end
