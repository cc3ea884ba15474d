/-
  Bytes that are decoded: what is known of them.
-/
import Derived.Test.YtklfkfnckdeifaaWireP
import Derived.Test.YtklfkfnckdeifaaWireD
namespace Go.Proofs.Ytklfkfnckdeifaa
set_option linter.unusedSimpArgs false
set_option linter.unusedVariables false
open Go.RowKit
theorem putL_single {x : Int} (h : 0 ≤ x ∧ x < 256) : putL x 1 1 = [x] := by
  unfold putL digit
  simp
  omega
theorem atD_1 {l : List Int} {n : Int} (h : l.getD 2 0 = 1) : atK l n = 10 := by unfold atK; rw [h]; rfl
theorem atD_2 {l : List Int} {n : Int} (h : l.getD 2 0 = 2) : atK l n = 10 + bytesN n := by unfold atK; rw [h]; rfl
theorem atD_3 {l : List Int} {n : Int} (h : l.getD 2 0 = 3) : atK l n = 5 := by unfold atK; rw [h]; rfl
/-- So many bytes from p on. -/
def sl (l : List Int) (p m : Nat) : List Int := (List.range m).map fun i => l.getD (p + i) 0
theorem sl_zero (l : List Int) (p : Nat) : sl l p 0 = [] := rfl
theorem sl_len (l : List Int) (p m : Nat) : (sl l p m).length = m := by simp [sl]
theorem sl_succ (l : List Int) (p m : Nat) : sl l p (m + 1) = sl l p m ++ [l.getD (p + m) 0] := by unfold sl; rw [List.range_succ, List.map_append]; rfl
theorem sl_add (l : List Int) (p a b : Nat) : sl l p (a + b) = sl l p a ++ sl l (p + a) b := by
  induction b with
  | zero => simp [sl_zero]
  | succ b ih => rw [← Nat.add_assoc, sl_succ, ih, sl_succ, List.append_assoc, Nat.add_assoc]
theorem sl_take (l : List Int) (q : Nat) (h : q ≤ l.length) : sl l 0 q = l.take q := by
  apply List.ext_getElem
  · rw [sl_len, List.length_take]; omega
  · intro i h1 h2
    rw [sl_len] at h1
    simp only [sl, List.getElem_map, List.getElem_range, List.getElem_take, Nat.zero_add]
    exact getD_at (by omega)
theorem sl_all (l : List Int) : sl l 0 l.length = l := by rw [sl_take l _ (Nat.le_refl _), List.take_length]
theorem sl_mid (a s b : List Int) {p m : Nat} (hp : a.length = p) (hm : s.length = m) : sl (a ++ s ++ b) p m = s := by
  subst hp hm
  apply List.ext_getElem
  · rw [sl_len]
  · intro i h1 h2
    simp only [sl, List.getElem_map, List.getElem_range]
    rw [getD_at (by simp; omega)]
    rw [List.getElem_append_left (by simp; omega), List.getElem_append_right (by omega)]
    simp
theorem sl_get (l : List Int) (p m i : Nat) (h : i < m) (h2 : i < (sl l p m).length) : (sl l p m)[i] = l.getD (p + i) 0 := by simp [sl]
theorem digit_zero (x : Int) : digit x 0 = x % 256 := by unfold digit; simp
theorem digit_step (a c : Int) (i : Nat) (c0 : 0 ≤ c) (c1 : c < 256) : digit (a * 256 + c) (i + 1) = digit a i := by
  unfold digit
  have e : ((2 : Int) ^ (8 * (i + 1))) = 256 * 2 ^ (8 * i) := by rw [show 8 * (i + 1) = 8 + 8 * i by omega, Int.pow_add]; rfl
  have e2 : (a * 256 + c) / (256 * 2 ^ (8 * i)) = (a * 256 + c) / 256 / 2 ^ (8 * i) := by rw [Int.ediv_ediv, if_neg (fun h => absurd h.1 (by decide)), Int.sub_zero]
  rw [e, e2, show (a * 256 + c) / 256 = a by omega]
theorem putL_snoc (a c : Int) (m : Nat) (c0 : 0 ≤ c) (c1 : c < 256) : putL (a * 256 + c) (m + 1) (m + 1) = putL a m m ++ [c] := by
  rw [putL_succ]
  have h0 : digit (a * 256 + c) (m + 1 - 1 - m) = c := by rw [show m + 1 - 1 - m = 0 by omega, digit_zero]; omega
  rw [h0]
  congr 1
  unfold putL
  apply List.map_congr_left
  intro j hj
  have hj' := List.mem_range.1 hj
  rw [show m + 1 - 1 - j = (m - 1 - j) + 1 by omega]
  exact digit_step a c _ c0 c1
theorem getD_in {l : List Int} (hb : byteOk l) (i : Nat) : 0 ≤ l.getD i 0 ∧ l.getD i 0 < 256 := by
  by_cases h : i < l.length
  · rw [getD_at h]; exact hb.get i h
  · rw [getD_out (by omega)]; omega
theorem putL_num {l : List Int} (hb : byteOk l) (p : Nat) : ∀ m, putL (numK l p m) m m = sl l p m
  | 0 => rfl
  | m + 1 => by
    have h := getD_in hb (p + m)
    show putL (numK l p m * 256 + l.getD (p + m) 0) (m + 1) (m + 1) = _
    rw [putL_snoc _ _ _ h.1 h.2, putL_num hb p m, sl_succ]
theorem numK_seg {l : List Int} (p : Nat) : ∀ (m : Nat) (x : Int), 0 ≤ x → x < 256 ^ m → sl l p m = putL x m m → numK l p m = x
  | 0, x, h0, h1, _ => by simp at h1; show (0 : Int) = x; omega
  | m + 1, x, h0, h1, h => by
    have e : x = x / 256 * 256 + x % 256 := by omega
    rw [e, putL_snoc _ _ _ (by omega) (by omega), sl_succ] at h
    have h2 := List.append_inj' h rfl
    have h3 := numK_seg p m (x / 256) (by omega) (by rw [Int.pow_succ] at h1; omega) h2.1
    have h4 := List.singleton_inj.1 h2.2
    show numK l p m * 256 + l.getD (p + m) 0 = x
    rw [h3, h4]; omega
/-- The bits of a set that was read. -/
theorem heardK_bit {l : List Int} (hb : byteOk l) (p : Nat) : ∀ (m t : Nat), t < 128 → (heardK l p m).getLsbD t = (decide (t / 8 < m) && (BitVec.ofInt 128 (l.getD (p + t / 8) 0)).getLsbD (t % 8))
  | 0, t, _ => by rw [heardK_zero]; simp
  | m + 1, t, ht => by
    rw [heardK_succ, BitVec.getLsbD_or, heardK_bit hb p m t ht, BitVec.getLsbD_shiftLeft]
    have hx := getD_in hb (p + m)
    by_cases h1 : t / 8 < m
    · have h2 : t < 8 * m := by omega
      have h3 : t / 8 < m + 1 := by omega
      simp [h1, h2, h3]
    · by_cases h2 : t / 8 = m
      · have h3 : ¬ t < 8 * m := by omega
        have h4 : t - 8 * m = t % 8 := by omega
        simp [h2, h3, h4, ht]
      · have h3 : ¬ t < 8 * m := by omega
        have h4 : ¬ t / 8 < m + 1 := by omega
        rw [byte_bit hx.1 hx.2 (t - 8 * m) (by omega)]
        simp [h1, h4]
theorem bit8 {x : Int} (x0 : 0 ≤ x) (x1 : x < 256) (v : BitVec 8) (h : ∀ t, t < 8 → v.getLsbD t = (BitVec.ofInt 128 x).getLsbD t) : ((v.toNat : Nat) : Int) = x := by
  obtain ⟨a, rfl⟩ : ∃ a : Nat, x = a := ⟨x.toNat, by omega⟩
  have e : v = BitVec.ofNat 8 a := by
    apply BitVec.eq_of_getLsbD_eq
    intro t ht
    rw [h t ht, BitVec.ofInt_natCast, BitVec.getLsbD_ofNat, BitVec.getLsbD_ofNat]
    have : t < 128 := by omega
    simp [ht, this]
  rw [e, BitVec.toNat_ofNat]
  omega
theorem setL_heard {l : List Int} (hb : byteOk l) (p m : Nat) (hm : m ≤ 16) : setL (heardK l p m) m = sl l p m := by
  unfold setL sl
  apply List.map_congr_left
  intro i hi
  have hi' := List.mem_range.1 hi
  have hx := getD_in hb (p + i)
  unfold by8
  refine bit8 hx.1 hx.2 _ (fun t ht => ?_)
  rw [BitVec.getLsbD_extractLsb', heardK_bit hb p m _ (by omega)]
  have h1 : (8 * i + t) / 8 = i := by omega
  have h2 : (8 * i + t) % 8 = t := by omega
  simp [h1, h2, hi', ht]
theorem heardK_seg {l : List Int} (hb : byteOk l) (p m : Nat) (v : BitVec 128) (hm : m ≤ 16) (hv : ∀ t, v.getLsbD t = true → t < 8 * m) (h : sl l p m = setL v m) : heardK l p m = v := by
  apply BitVec.eq_of_getLsbD_eq
  intro t ht
  rw [heardK_bit hb p m t ht]
  by_cases h1 : t / 8 < m
  · have h2 : l.getD (p + t / 8) 0 = by8 v (t / 8) := by
      have h3 := setL_get v m (t / 8) h1
      rw [← h, List.getElem?_eq_getElem (by rw [sl_len]; exact h1), sl_get l p m _ h1] at h3
      exact Option.some.inj h3
    rw [h2]
    unfold by8
    rw [BitVec.ofInt_natCast, BitVec.getLsbD_ofNat]
    have h4 : t % 8 < 128 := by omega
    have h5 : (v.extractLsb' (8 * (t / 8)) 8).toNat.testBit (t % 8) = (v.extractLsb' (8 * (t / 8)) 8).getLsbD (t % 8) := rfl
    rw [h5, BitVec.getLsbD_extractLsb', show 8 * (t / 8) + t % 8 = t by omega]
    have h6 : t % 8 < 8 := by omega
    simp [h1, h4, h6]
  · have h2 : v.getLsbD t = false := by
      cases hc : v.getLsbD t with
      | false => rfl
      | true => have := hv t hc; omega
    rw [h2]; simp [h1]
/-- Notices, the first one ahead. -/
theorem newsK_cons (l : List Int) (p m : Nat) : newsK l p (m + 1) = ntK l p :: newsK l (p + 5) m := by
  unfold newsK
  rw [List.range_succ_eq_map, List.map_cons, List.map_map]
  congr 1
  apply List.map_congr_left
  intro i hi
  show ntK l (p + (i + 1) * 5) = ntK l (p + 5 + i * 5)
  congr 1; omega
theorem noteL_sl {l : List Int} (hb : byteOk l) (p : Nat) : noteL (ntK l p) = sl l p 5 := by
  have h0 := getD_in hb p
  have h1 := getD_in hb (p + 1)
  rw [ntK_eq]
  unfold noteL
  rw [putL_single h0, putL_single h1, putL_num hb, show (5 : Nat) = 1 + 1 + 3 from rfl, sl_add, sl_add]
  rfl
theorem newsL_sl {l : List Int} (hb : byteOk l) : ∀ (m p : Nat), newsL (newsK l p m) = sl l p (m * 5)
  | 0, p => rfl
  | m + 1, p => by
    rw [newsK_cons, show (m + 1) * 5 = 5 + m * 5 by omega, sl_add, ← newsL_sl hb m (p + 5), ← noteL_sl hb p]
    rfl
theorem newsE_iff {l : List Int} {n : Int} : ∀ (m p : Nat) (prev : Int), newsE l n m p prev = 0 ↔ ((m = 0 ∨ p + m * 5 ≤ l.length) ∧ riseFrom n prev (newsK l p m) = true)
  | 0, p, prev => by simp [newsE_zero, newsK_zero, riseFrom]
  | m + 1, p, prev => by
    rw [newsE_succ, newsK_cons]
    simp only [riseFrom, Bool.and_eq_true, decide_eq_true_eq]
    by_cases h1 : l.length < p + 5
    · rw [if_pos h1]
      constructor
      · intro h; omega
      · rintro ⟨h2, -⟩; omega
    · rw [if_neg h1]
      by_cases h2 : validN n (ntK l p) = true ∧ prev < (ntK l p).of_
      · rw [if_pos h2, newsE_iff m (p + 5) _]
        constructor
        · rintro ⟨h3, h4⟩; exact ⟨by omega, h2, h4⟩
        · rintro ⟨h3, -, h4⟩; exact ⟨by omega, h4⟩
      · rw [if_neg h2]
        constructor
        · intro h; omega
        · rintro ⟨-, h3, -⟩; exact absurd h3 h2
theorem sl_one (l : List Int) (p : Nat) : sl l p 1 = [l.getD p 0] := by rw [show (1 : Nat) = 0 + 1 from rfl, sl_succ, sl_zero]; rfl
theorem news_seg {l : List Int} : ∀ (L : List Nt) (p : Nat), (∀ x ∈ L, (0 ≤ x.of_ ∧ x.of_ < 256) ∧ (0 ≤ x.kind ∧ x.kind < 256) ∧ 0 ≤ x.tag ∧ x.tag < 16777216) → sl l p (L.length * 5) = newsL L → newsK l p L.length = L
  | [], p, _, _ => rfl
  | x :: t, p, hv, h => by
    obtain ⟨v1, v2, v3⟩ := hv x (List.mem_cons_self ..)
    rw [List.length_cons, show (t.length + 1) * 5 = 5 + t.length * 5 by omega, sl_add] at h
    have h' : sl l p 5 ++ sl l (p + 5) (t.length * 5) = noteL x ++ newsL t := h
    obtain ⟨h1, h2⟩ := List.append_inj h' (by rw [sl_len, noteL_len])
    unfold noteL at h1
    rw [putL_single v1, putL_single v2, show (5 : Nat) = 1 + 1 + 3 from rfl, sl_add, sl_add, sl_one, sl_one] at h1
    obtain ⟨h3, h4⟩ := List.append_inj h1 (by simp)
    obtain ⟨h5, h6⟩ := List.append_inj h3 (by simp)
    have e1 := List.singleton_inj.1 h5
    have e2 := List.singleton_inj.1 h6
    have e3 := numK_seg (p + (1 + 1)) 3 x.tag v3.1 (by have := v3.2; simpa using this) h4
    rw [List.length_cons, newsK_cons, news_seg t (p + 5) (fun y hy => hv y (List.mem_cons_of_mem _ hy)) h2, ntK_eq, e1]
    congr 1
    rw [e2]
    show Nt.mk x.of_ (numK l (p + 2) 3) x.kind = x
    rw [show numK l (p + 2) 3 = x.tag from e3]
/-- What bytes that are no refusal look like. -/
structure DecOk (l : List Int) (n : Int) : Prop where
  m0 : l.getD 0 0 = 101
  m1 : l.getD 1 0 = 115
  kind : l.getD 2 0 = 1 ∨ l.getD 2 0 = 2 ∨ l.getD 2 0 = 3
  size : l.getD 3 0 = n
  frm : l.getD 4 0 < n
  len : 5 ≤ l.length
  round : l.getD 2 0 ≠ 3 → 10 ≤ l.length ∧ 1 ≤ numK l 5 5 ∧ numK l 5 5 ≤ 1099511627775
  heard : l.getD 2 0 = 2 → 10 + bytesN n ≤ l.length ∧ withinW (heardK l 10 (bytesN n)) n = true
  many : atK l n + 1 ≤ l.length ∧ l.getD (atK l n) 0 ≤ n
  news : riseFrom n (-1) (newsK l (atK l n + 1) (manyK l (atK l n))) = true
  sum : numK l (atK l n + 1 + manyK l (atK l n) * 5) 4 = sumV (l.take (atK l n + 1 + manyK l (atK l n) * 5))
  all : atK l n + 1 + manyK l (atK l n) * 5 + 4 = l.length
theorem decN_ok {l : List Int} {n : Int} {p : Nat} (h : decN l n p = 0) : (p + 1 ≤ l.length ∧ l.getD p 0 ≤ n) ∧ riseFrom n (-1) (newsK l (p + 1) (manyK l p)) = true ∧ numK l (p + 1 + manyK l p * 5) 4 = sumV (l.take (p + 1 + manyK l p * 5)) ∧ p + 1 + manyK l p * 5 + 4 = l.length := by
  unfold decN at h
  by_cases h1 : newsC l n p = 0
  · rw [if_pos h1] at h
    unfold decS at h
    unfold newsC at h1
    split at h1
    · omega
    · split at h1
      · omega
      · have h2 := (newsE_iff _ _ _).1 h1
        split at h
        · omega
        · split at h
          · next h3 =>
            split at h
            · next h4 => exact ⟨⟨by omega, by omega⟩, h2.2, h3, h4⟩
            · omega
          · omega
  · rw [if_neg h1] at h; exact absurd h h1
theorem ok_decN {l : List Int} {n : Int} {p : Nat} (h1 : p + 1 ≤ l.length ∧ l.getD p 0 ≤ n) (h2 : riseFrom n (-1) (newsK l (p + 1) (manyK l p)) = true) (h3 : numK l (p + 1 + manyK l p * 5) 4 = sumV (l.take (p + 1 + manyK l p * 5))) (h4 : p + 1 + manyK l p * 5 + 4 = l.length) : decN l n p = 0 := by
  have h5 : newsC l n p = 0 := by
    unfold newsC
    rw [if_neg (by omega), if_neg (by omega)]
    exact (newsE_iff _ _ _).2 ⟨by omega, h2⟩
  unfold decN
  rw [if_pos h5]
  unfold decS
  rw [if_neg (by omega), if_pos h3, if_pos h4]
theorem dec_ok {l : List Int} {n : Int} (h : decC l n = 0) : DecOk l n := by
  unfold decC at h
  split at h
  · omega
  split at h
  case isFalse => omega
  next s2 sM =>
  split at h
  · omega
  split at h
  case isFalse => omega
  next s3 sK =>
  split at h
  · omega
  split at h
  case isFalse => omega
  next s4 sN =>
  split at h
  · omega
  split at h
  case isFalse => omega
  next s5 sF =>
  have hk : l.getD 2 0 = 1 ∨ l.getD 2 0 = 2 ∨ l.getD 2 0 = 3 := by omega
  split at h
  · next h3 =>
    have ha := atD_3 (n := n) h3
    obtain ⟨h4, h5, h6, h7⟩ := decN_ok h
    refine ⟨sM.1, sM.2, hk, sN, sF, by omega, fun h => absurd h3 h, fun h => by omega, ?_, ?_, ?_, ?_⟩ <;> rw [ha] <;> assumption
  · next h3 =>
    unfold decR at h
    split at h
    · omega
    split at h
    case isFalse => omega
    next s10 sR =>
    split at h
    · next h2 =>
      have ha := atD_2 (n := n) h2
      unfold decH at h
      split at h
      · next hh =>
        obtain ⟨h4, h5, h6, h7⟩ := decN_ok h
        unfold heardC at hh
        split at hh
        · omega
        split at hh
        · next s11 hw => refine ⟨sM.1, sM.2, hk, sN, sF, by omega, fun _ => ⟨by omega, sR⟩, fun _ => ⟨by omega, hw⟩, ?_, ?_, ?_, ?_⟩ <;> rw [ha] <;> assumption
        · omega
      · next hh => exact absurd h hh
    · next h2 =>
      have ha := atD_1 (l := l) (n := n) (by omega)
      obtain ⟨h4, h5, h6, h7⟩ := decN_ok h
      refine ⟨sM.1, sM.2, hk, sN, sF, by omega, fun _ => ⟨by omega, sR⟩, fun h => absurd h h2, ?_, ?_, ?_, ?_⟩ <;> rw [ha] <;> assumption
theorem ok_dec {l : List Int} {n : Int} (h : DecOk l n) : decC l n = 0 := by
  have hlen := h.len
  have hk := h.kind
  unfold decC
  rw [if_neg (by omega), if_pos ⟨h.m0, h.m1⟩, if_neg (by omega), if_pos (by omega), if_neg (by omega), if_pos h.size, if_neg (by omega), if_pos h.frm]
  have h1 := h.many
  have h2 := h.news
  have h3 := h.sum
  have h4 := h.all
  rcases hk with hk | hk | hk
  · rw [atD_1 hk] at h1 h2 h3 h4
    obtain ⟨r1, r2⟩ := h.round (by omega)
    rw [if_neg (by omega)]
    unfold decR
    rw [if_neg (by omega), if_pos r2, if_neg (by omega)]
    exact ok_decN h1 h2 h3 h4
  · rw [atD_2 hk] at h1 h2 h3 h4
    obtain ⟨r1, r2⟩ := h.round (by omega)
    obtain ⟨q1, q2⟩ := h.heard hk
    rw [if_neg (by omega)]
    unfold decR
    rw [if_neg (by omega), if_pos r2, if_pos hk]
    have h5 : heardC l n 10 (bytesN n) = 0 := by unfold heardC; rw [if_neg (by omega), if_pos q2]
    unfold decH
    rw [if_pos h5]
    exact ok_decN h1 h2 h3 h4
  · rw [atD_3 hk] at h1 h2 h3 h4
    rw [if_pos hk]
    exact ok_decN h1 h2 h3 h4
/-- The fields of the note of bytes. -/
def roundD (l : List Int) : Int := if l.getD 2 0 = 3 then 0 else numK l 5 5
def heardD (l : List Int) (n : Int) : BitVec 128 := if l.getD 2 0 = 2 then heardK l 10 (bytesN n) else 0#128
def newsD (l : List Int) (n : Int) : List Nt := newsK l (atK l n + 1) (manyK l (atK l n))
theorem newsD_len (l : List Int) (n : Int) : (newsD l n).length = manyK l (atK l n) := newsK_len _ _ _
theorem head_sl {l : List Int} {n : Int} (h : DecOk l n) : sl l 0 5 = headL n (l.getD 2 0) (l.getD 4 0) := by
  unfold headL
  rw [← h.size]
  show [l.getD (0 + 0) 0, l.getD (0 + 1) 0, l.getD (0 + 2) 0, l.getD (0 + 3) 0, l.getD (0 + 4) 0] = _
  simp only [Nat.zero_add]
  rw [h.m0, h.m1]
theorem line_sl {l : List Int} {n : Int} (hb : byteOk l) (h1 : 1 ≤ n) (h2 : n ≤ 100) (h : DecOk l n) : lineL n (l.getD 2 0) (l.getD 4 0) (roundD l) (heardD l n) = sl l 0 (atK l n) := by
  unfold lineL roundD heardD
  rcases h.kind with hk | hk | hk
  · rw [atD_1 hk, if_neg (by omega), if_neg (by omega), if_neg (by omega), ← head_sl h, putL_num hb, show (10 : Nat) = 5 + 5 from rfl, sl_add]
  · rw [atD_2 hk, if_neg (by omega), if_pos hk, if_neg (by omega), if_pos hk, ← head_sl h, putL_num hb]
    show sl l 0 5 ++ sl l 5 5 ++ setL (heardK l 10 (bytesN n)) (bytesN n) = _
    rw [setL_heard hb 10 (bytesN n) (by unfold bytesN; omega), show (10 : Nat) = 5 + 5 from rfl, sl_add, sl_add]
  · rw [atD_3 hk, if_pos hk, ← head_sl h]
theorem many_int {l : List Int} {n : Int} (hb : byteOk l) : ((manyK l (atK l n) : Nat) : Int) = l.getD (atK l n) 0 := by
  have := getD_in hb (atK l n)
  unfold manyK; omega
theorem body_sl {l : List Int} {n : Int} (hb : byteOk l) (h1 : 1 ≤ n) (h2 : n ≤ 100) (h : DecOk l n) : bodyL n (l.getD 2 0) (l.getD 4 0) (roundD l) (heardD l n) (newsD l n) = sl l 0 (atK l n + 1 + manyK l (atK l n) * 5) := by
  unfold bodyL foreL
  rw [line_sl hb h1 h2 h, newsD_len, many_int hb, putL_single (getD_in hb _), ← sl_one, newsD, newsL_sl hb, sl_add, sl_add, Nat.zero_add, Nat.zero_add]
/-- Bytes that are decoded are the bytes of their note. -/
theorem wtaken {l : List Int} {n : Int} (hb : byteOk l) (h1 : 1 ≤ n) (h2 : n ≤ 100) (h : DecOk l n) : bytesOf n (l.getD 2 0) (l.getD 4 0) (roundD l) (heardD l n) (newsD l n) = l := by
  unfold bytesOf
  rw [body_sl hb h1 h2 h]
  have hq := h.all
  have hs := h.sum
  rw [sl_take l _ (by omega), ← hs, putL_num hb, ← sl_take l _ (by omega)]
  have e := sl_add l 0 (atK l n + 1 + manyK l (atK l n) * 5) 4
  rw [Nat.zero_add, hq, sl_all] at e
  exact e.symm
theorem RSum_n {l : List Int} {m : Nat} {v : Int} {base : Option Addr} {cap : Nat} {w : World} (hm : l.length = m) (hv : sumV l = v) (hb : byteOk l) (hn : m ≤ 100000) (hl : LiesV (bytesV l) base w) :
    Calls Try.prog 17 #[.slice base m cap] w fun e w' => e = .returned (.int .i64 v) ∧ Below w.heap.size w w' := by
  subst hm hv
  exact RSum_calls l base cap w hb (by omega) hl
end Go.Proofs.Ytklfkfnckdeifaa
