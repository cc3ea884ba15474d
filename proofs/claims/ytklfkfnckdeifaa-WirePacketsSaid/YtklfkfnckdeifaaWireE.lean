/-
  The bytes of a set; putSet.
-/
import Derived.Test.YtklfkfnckdeifaaWireC
import Derived.Test.YtklfkfnckdeifaaIter
import Derived.Laws.MakeOwn
namespace Go.Proofs.Ytklfkfnckdeifaa
set_option linter.unusedSimpArgs false
set_option linter.unusedVariables false
open Go.RowKit Go.Shelf
attribute [local go_sem] Oper.semAt_some
attribute [local irreducible] Ear.Pl.wpQ Ear.Pa.wpQ Ear.Fe.wpQ Ear.Fa.wpQ Ear.wd Ear.clean
theorem ofInt_toNat8 (x : BitVec 8) : BitVec.ofInt 8 (x.toNat : Int) = x := by
  apply BitVec.eq_of_toNat_eq
  rw [BitVec.toNat_ofInt]
  have := x.isLt
  omega
theorem wrap8_toNat (x : BitVec 8) : IntKind.u8.wrap (x.toNat : Int) = (x.toNat : Int) := by
  have := x.isLt
  have e : (x.toNat : Int) % 256 = (x.toNat : Int) := by omega
  simp [IntKind.wrap, IntKind.bits, IntKind.signed, e]
theorem bits_or8 (x y : BitVec 8) : Go.bits .or .u8 (x.toNat : Int) (y.toNat : Int) = ((x ||| y).toNat : Int) := by
  show IntKind.u8.wrap (((BitVec.ofInt 8 (x.toNat : Int) ||| BitVec.ofInt 8 (y.toNat : Int)).toNat : Nat) : Int) = _
  rw [ofInt_toNat8, ofInt_toNat8]
  exact wrap8_toNat _
/-- The byte k of a set. -/
def by8 (v : BitVec 128) (k : Nat) : Int := ((v.extractLsb' (8 * k) 8).toNat : Int)
theorem ext_or8 (a b : BitVec 128) (k : Nat) : (a ||| b).extractLsb' k 8 = a.extractLsb' k 8 ||| b.extractLsb' k 8 := by
  ext i hi; simp
theorem by8_or (a b : BitVec 128) (k : Nat) : Go.bits .or .u8 (by8 a k) (by8 b k) = by8 (a ||| b) k := by unfold by8; rw [bits_or8, ext_or8]
theorem by8_in (v : BitVec 128) (k : Nat) : 0 ≤ by8 v k ∧ by8 v k < 256 := by
  unfold by8
  have := (v.extractLsb' (8 * k) 8).isLt
  omega
theorem ext_one8 (i : Nat) (h : i < 128) : (Ear.one i).extractLsb' (8 * (i / 8)) 8 = BitVec.twoPow 8 (i % 8) := by
  apply BitVec.eq_of_getLsbD_eq
  intro j hj
  rw [BitVec.getLsbD_extractLsb', Ear.one_bit, BitVec.getLsbD_twoPow]
  have h1 : i % 8 < 8 := by omega
  by_cases e : j = i % 8
  · subst e
    have : 8 * (i / 8) + i % 8 = i := by omega
    simp [h, h1, this]
  · have h2 : ¬ (8 * (i / 8) + j = i) := by omega
    have h3 : ¬ (i % 8 = j) := fun h => e h.symm
    simp [h2, h3]
theorem by8_one (i : Nat) (h : i < 128) : by8 (Ear.one i) (i / 8) = 2 ^ (i % 8) := by
  unfold by8
  rw [ext_one8 i h, BitVec.toNat_twoPow, Nat.mod_eq_of_lt (Nat.pow_lt_pow_right (by omega) (by omega))]
  simp
theorem pow_mod8 (i : Nat) (h : i < 8) : (2 : Int) ^ i % 256 = 2 ^ i := by
  have h1 : (2 : Nat) ^ i < 2 ^ 8 := Nat.pow_lt_pow_right (by omega) h
  have h2 : ((2 : Int) ^ i) = ((2 ^ i : Nat) : Int) := by simp
  rw [h2]
  generalize 2 ^ i = p at *
  omega
theorem or8_same (c : BitVec 128) (i : Nat) (h : i < 128) : Go.bits .or .u8 (by8 c (i / 8)) (2 ^ (i % 8) % 256) = by8 (c ||| Ear.one i) (i / 8) := by
  rw [pow_mod8 _ (by omega), ← by8_one i h, by8_or]
theorem or8_other (c : BitVec 128) (i k : Nat) (h : i < 128) (hk : i / 8 ≠ k) : by8 (c ||| Ear.one i) k = by8 c k := by
  unfold by8
  rw [ext_or8]
  have : (Ear.one i).extractLsb' (8 * k) 8 = 0#8 := by
    apply BitVec.eq_of_getLsbD_eq
    intro j hj
    rw [BitVec.getLsbD_extractLsb', Ear.one_bit]
    have h2 : ¬ (8 * k + j = i) := by omega
    simp [h2]
  rw [this]; simp
def setL (v : BitVec 128) (m : Nat) : List Int := (List.range m).map (by8 v)
theorem setL_len (v : BitVec 128) (m : Nat) : (setL v m).length = m := by simp [setL]
theorem setL_get (v : BitVec 128) (m k : Nat) (h : k < m) : (setL v m)[k]? = some (by8 v k) := by simp [setL, h]
theorem setL_or (c : BitVec 128) (m i : Nat) (h : i < 128) (hm : i / 8 < m) : (setL c m).set (i / 8) (by8 (c ||| Ear.one i) (i / 8)) = setL (c ||| Ear.one i) m := by
  apply List.ext_getElem
  · simp [setL]
  · intro k h1 h2
    have hk : k < m := by simpa [setL] using h2
    rw [List.getElem_set]
    split
    · rename_i e
      subst e
      simp [setL]
    · rename_i e
      simp only [setL, List.getElem_map, List.getElem_range]
      exact (or8_other c i k h e).symm
theorem setL_zero (m : Nat) : setL 0#128 m = List.replicate m 0 := by
  apply List.ext_getElem
  · simp [setL]
  · intro k h1 h2
    simp [setL, by8]
/-- What has come of a set. -/
def orL {v : BitVec 128} (pre : List (IdOf v)) : BitVec 128 := pre.foldl (fun s x => s ||| Ear.one x.1) 0#128
theorem orL_snoc {v : BitVec 128} (pre : List (IdOf v)) (x : IdOf v) : orL (pre ++ [x]) = orL pre ||| Ear.one x.1 := by unfold orL; rw [List.foldl_append]; rfl
theorem orL_nil {v : BitVec 128} : orL ([] : List (IdOf v)) = 0#128 := rfl
theorem orL_bit (v : BitVec 128) (j : Nat) (hj : j ≤ 100) (i : Nat) : (orL (idsS v j)).getLsbD i = (v.getLsbD i && decide (i < j)) := by
  induction j with
  | zero => rw [idsS_zero, orL_nil]; simp
  | succ j ih =>
    have ih' := ih (by omega)
    by_cases hb : v.getLsbD j = true
    · rw [idsS_yes v j ⟨by omega, hb⟩, orL_snoc, BitVec.getLsbD_or, ih', Ear.one_bit]
      by_cases e : i = j
      · subst e
        have : i < 128 := by omega
        simp [hb, this]
      · by_cases h : i < j
        · have : i < j + 1 := by omega
          simp [h, this, e]
        · have : ¬ i < j + 1 := by omega
          simp [h, this, e]
    · rw [idsS_no v j (by simpa using hb), ih']
      by_cases e : i = j
      · subst e
        have : v.getLsbD i = false := by simpa using hb
        simp [this]
      · by_cases h : i < j
        · have : i < j + 1 := by omega
          simp [h, this]
        · have : ¬ i < j + 1 := by omega
          simp [h, this]
theorem orL_all {v : BitVec 128} (h : Ear.clean v = v) : orL (idsS v 100) = v := by
  apply BitVec.eq_of_getLsbD_eq
  intro i hi
  rw [orL_bit v 100 (Nat.le_refl _) i, ← Ear.clean_bit, h]
theorem bytesV_set (l : List Int) (k : Nat) (x : Int) : (bytesV l).set k (.int .u8 x) = bytesV (l.set k x) := by unfold bytesV; rw [List.map_set]
theorem Ear.wpListIn_worldE {F : Fence} {n : Nat} {P : Program} {ops : Array Oper} {l : List Oper} {Q : Exit → Act → World → Prop} {a : Act} {w : World} (Φ : World → Prop) (h : Φ w) (k : ∀ w', Φ w' → wpListIn F n P ops Q l a w') : wpListIn F n P ops Q l a w := k w h
theorem blk_addE {W : World} {B T : Nat} {xs : List Value} (h : Ear.Blk W B T xs) : ∀ j u, xs[j]? = some u → W.cell? ((⟨B, 0, none⟩ : Addr).add j) = some u := by
  intro j u hj
  have e : (⟨B, 0, none⟩ : Addr).add j = ⟨B, j, none⟩ := by unfold Addr.add; by_cases h : j = 0 <;> simp [h]
  rw [e, ← hj]
  exact h.cell j
attribute [local irreducible] by8 setL orL Ear.one
set_option maxRecDepth 100000 in
set_option maxHeartbeats 4000000 in
theorem PutSet_calls {lo cap : Nat} {base : Option Addr} {w : World} (l : List Int) (v : BitVec 128) (n : Nat) (h1 : 1 ≤ n) (h2 : n ≤ 100) (hc : Ear.clean v = v) (hv : ∀ i, v.getLsbD i = true → i < n) (hn : l.length ≤ 100000) (h : w.ownsRow lo 5 1 (.slice base l.length cap) l.length (bytesV l)) (hlo : lo ≤ w.heap.size) :
    Calls Try.prog 61 #[.slice base l.length cap, .agg #[.int .u32 (Ear.wd (v) 0), .int .u32 (Ear.wd (v) 1), .int .u32 (Ear.wd (v) 2), .int .u32 (Ear.wd (v) 3)], .int .i64 n] w fun e w' => ∃ base' cap', e = .returned (.slice base' (l.length + (n + 7) / 8) cap') ∧ w'.ownsRow lo 5 1 (.slice base' (l.length + (n + 7) / 8) cap') (l.length + (n + 7) / 8) (bytesV (l ++ setL v ((n + 7) / 8))) ∧ Ear.Keep (U8 lo w) w w' := by
  refine (callsIn_wide (n := 5)).1 ?_
  obtain ⟨i0, hi, hz0, hz1, hz2⟩ := info_parts info_u8
  have HI := Lib.hid hi
  have HZ0 := Lib.hid hz0
  have HZ1 := Lib.hid hz1
  have HZ2 := Lib.hid hz2
  have HC := Lib.hid hc
  have HV := Lib.hid hv
  have HOW := Lib.hid h
  have hmk := make_bytes ((n + 7) / 8) (by omega)
  have e9 : (((n + 7) / 8 : Nat) : Int) = ((n : Int) + 7) / 8 := by omega
  simp only [e9] at hmk
  obtain ⟨m, hm⟩ : ∃ m, (n + 7) / 8 = m := ⟨_, rfl⟩
  rw [hm] at hmk ⊢
  have HM := Lib.hid hm
  have hm13 : m ≤ 13 := by omega
  clear hi hz0 hz1 hz2 hc hv h e9 hm
  refine callsIn_of_wp_marks Try.func61 rfl trivial ?_ rfl; simp only [Try.ntmps61, List.size_toArray, List.length_cons, List.length_nil, Nat.reduceAdd, Nat.reduceSub, Array.replicate_succ, Array.replicate_zero, List.push_toArray, List.append_toArray, List.nil_append, List.cons_append]
  gi_wp2_with (refine ⟨trivial, ?_⟩; gi_at_call 67; (with_reducible refine CallsIn.mono (callsIn_wide.2 (All_calls v _)) ?_); rintro e _ ⟨rfl, rfl⟩)
  refine Ear.wpIn_world (Ear.Sh w.heap.size w [(w.heap.size + 1, _, _), (w.heap.size + 1 + 1, _, _), (w.heap.size + 1 + 1 + 1, _, _)]) (.cons (by (repeat' (first | (show Ear.Blk _ _ _ _; with_reducible assumption) | (with_reducible exact Ear.Blk.new _ _ _) | (with_reducible refine Ear.Blk.new' ?_; (simp only [World.size_alloc, World.size_setCell, World.size_drew, setRow_size]; done)) | (with_reducible apply Ear.Blk.alloc) | (with_reducible apply Ear.Blk.drew) | (with_reducible apply Ear.Blk.setC) | (with_reducible apply Ear.Blk.setC' (e := by omega)) | (with_reducible apply Ear.Blk.rowC (e := by first | rfl | omega)) | (with_reducible apply Ear.Blk.otherRow) | (with_reducible apply Ear.Blk.other) | (show _ ≠ _; (try simp only [World.size_alloc, World.size_setCell, World.size_drew, setRow_size]); omega) | (show _ < _; (try simp only [World.size_alloc, World.size_setCell, World.size_drew, setRow_size]); omega)))) (.cons (by (repeat' (first | (show Ear.Blk _ _ _ _; with_reducible assumption) | (with_reducible exact Ear.Blk.new _ _ _) | (with_reducible refine Ear.Blk.new' ?_; (simp only [World.size_alloc, World.size_setCell, World.size_drew, setRow_size]; done)) | (with_reducible apply Ear.Blk.alloc) | (with_reducible apply Ear.Blk.drew) | (with_reducible apply Ear.Blk.setC) | (with_reducible apply Ear.Blk.setC' (e := by omega)) | (with_reducible apply Ear.Blk.rowC (e := by first | rfl | omega)) | (with_reducible apply Ear.Blk.otherRow) | (with_reducible apply Ear.Blk.other) | (show _ ≠ _; (try simp only [World.size_alloc, World.size_setCell, World.size_drew, setRow_size]); omega) | (show _ < _; (try simp only [World.size_alloc, World.size_setCell, World.size_drew, setRow_size]); omega)))) (.cons (by (repeat' (first | (show Ear.Blk _ _ _ _; with_reducible assumption) | (with_reducible exact Ear.Blk.new _ _ _) | (with_reducible refine Ear.Blk.new' ?_; (simp only [World.size_alloc, World.size_setCell, World.size_drew, setRow_size]; done)) | (with_reducible apply Ear.Blk.alloc) | (with_reducible apply Ear.Blk.drew) | (with_reducible apply Ear.Blk.setC) | (with_reducible apply Ear.Blk.setC' (e := by omega)) | (with_reducible apply Ear.Blk.rowC (e := by first | rfl | omega)) | (with_reducible apply Ear.Blk.otherRow) | (with_reducible apply Ear.Blk.other) | (show _ ≠ _; (try simp only [World.size_alloc, World.size_setCell, World.size_drew, setRow_size]); omega) | (show _ < _; (try simp only [World.size_alloc, World.size_setCell, World.size_drew, setRow_size]); omega)))) (.nil (by (repeat' (first | (with_reducible exact Below.refl _ _) | (with_reducible assumption) | (show Below 0 _ _; with_reducible refine Below.mono (by assumption) (Nat.zero_le _)) | (with_reducible refine below_setRow ?_ ?_ _) | (with_reducible refine Below.alloc ?_ ?_ _) | (with_reducible refine Below.drew ?_) | (with_reducible refine Below.setCell ?_ ?_ _) | (with_reducible refine Below.frame ?_ _) | (with_reducible exact Nat.le_refl _) | omega | (simp only [World.size_alloc, World.size_setCell, World.size_drew, setRow_size]; omega) | (simp; omega) | (simp; done)))))))) ?_; (try clear hg_l); (try clear hg_c); (try clear hg_f); (try clear hg); (try clear hs__l); (try clear hs__c); (try clear hs__f); (try clear hs_); (try clear hb_l); (try clear hb_c); (try clear hb_f); (try clear hb); (try clear hB hs); rintro w2 ⟨hg, hs_, hb, hB⟩; replace hB : Below w.heap.size w w2 := hB; have hs := hB.size; (try simp only [List.set_cons_zero, List.set_cons_succ] at hg); (try simp only [List.set_cons_zero, List.set_cons_succ] at hs_); (try simp only [List.set_cons_zero, List.set_cons_succ] at hb); have hg_l := hg.lt; have hg_c := hg.cell; have hg_f := hg.frozen; have hs__l := hs_.lt; have hs__c := hs_.cell; have hs__f := hs_.frozen; have hb_l := hb.lt; have hb_c := hb.cell; have hb_f := hb.frozen
  have hs2 := hs
  have hb_l0 := hb_l
  have hg0 := hg
  have hs0 := hs_
  clear hmk
  refine' wpIn_rangeFunc_ownF rfl (by omega) (gf := 74) (lb := #[.pointer (some ⟨w.heap.size + 1 + 1 + 1, 0, none⟩)]) rfl trivial (enters_of Try.func74 (by kernel_rfl) rfl) (all_stops 4 (by omega) _ v _ hb) kpB_t (kpB_b (Bn := w.heap.size + 1 + 1 + 1) (by first | omega | (simp; omega))) (Below.refl _ _) (fun _ => rfl) (fun pre W => Ear.Blk W (w.heap.size + 1) 5 (bytesV (setL (orL pre) m)) ∧ Ear.Blk W (w.heap.size + 1 + 1) 22 [.slice (some ⟨w.heap.size + 1, 0, none⟩) m m] ∧ w2.heap.size ≤ W.heap.size ∧ Below w.heap.size w W) (fun c pre W => False) (fun s A B row hs hg hr => ⟨hs.1.ownF hg hr, hs.2.1.ownF hg hr, Nat.le_trans hs.2.2.1 hg.size, Below.ownF hs.2.2.2 hg hs.2.2.2.size (by omega) hr⟩) (fun c s A B row hs hg hr => hs) (⟨by rw [orL_nil, setL_zero]; exact hg0, hs0, Nat.le_refl _, hB⟩) _ ?assign ?body ?done ?stop
  case assign =>
    intro l_ x W K hK
    gi_wp2
    exact hK
  case body =>
    rintro l_ pre x W ⟨hg, hs_, hle, hB⟩ hl
    have hs := hB.size
    have hs__l := hs_.lt
    have hs__c := hs_.cell
    have hg_l := hg.lt
    have hg_f := hg.frozen
    have hxn : x.1 < n := HV.out _ x.2.2
    have hx8 : x.1 / 8 < m := by have := HM.out; omega
    have a0 : W.cell? ⟨w.heap.size + 1, x.1 / 8, none⟩ = some (.int .u8 (by8 (orL pre) (x.1 / 8))) := (hg.cell _).trans (by rw [bytesV, List.getElem?_map, setL_get _ _ _ hx8]; rfl)
    simp only [show idI x = ((x.1 : Nat) : Int) from rfl]
    obtain ⟨q, hq⟩ : ∃ q, x.1 = q := ⟨_, rfl⟩
    have HQ := Lib.hid hq
    rw [hq] at hxn hx8 a0
    rw [hq]
    clear hq hs0 hg0 hb hb_l hb_c hb_f
    gi_wp2
    refine Ear.Fe.wp_region_qb (fun _ => trivial) 10 (by kernel_rfl) (by kernel_rfl) (by kernel_rfl) (fun C hC1 hC2 => ?_); simp only [List.take_succ_cons, List.take_zero, List.drop_succ_cons, List.drop_zero]
    (iterate 10 (refine Ear.Fe.wpQ_run (by rfl) ?_; apply Exists.intro; refine ⟨fun K Q hK w' hw' => ?_, ?_⟩; (focus (obtain ⟨hc', hf'⟩ := Ear.bcell (hC1.out w' hw'); simp only [Act.put, List.setIfInBounds_toArray, List.set_cons_succ, List.set_cons_zero] at hK; gi_wp2; exact hw')); simp only [Act.put, List.setIfInBounds_toArray, List.set_cons_succ, List.set_cons_zero]))
    refine Ear.Fe.wpQ_nil ?_
    intro w5 hb5
    clear hC1 hC2
    have hB5 : Below W.heap.size W w5 := ((Below.refl _ W).drew).trans hb5
    have hg5 := hg.below hB5 hg_l
    have hs5 := hs_.below hB5 hs__l
    have hg5_l := hg5.lt
    have hg5_f := hg5.frozen
    have a5 : w5.cell? ⟨w.heap.size + 1, q / 8, none⟩ = some (.int .u8 (by8 (orL pre) (q / 8))) := (hB5.cell (p := ⟨w.heap.size + 1, q / 8, none⟩) hg_l).trans a0
    have hz5 := hB5.size
    clear hb5 a0
    gi_wp2
    have hq128 : q < 128 := by omega
    have hblk := hg5.setC (i := q / 8) (v := .int .u8 (Go.bits .or .u8 (by8 (orL pre) (q / 8)) (2 ^ (q % 8) % 256)))
    rw [or8_same _ _ hq128, bytesV_set, setL_or _ _ _ hq128 hx8] at hblk
    rw [or8_same _ _ hq128]
    refine ⟨(keeps_below hB5).trans (KeepsOthers.setCell _ _ _), (heap_setCell_other _ _ _ _ (by dsimp only; omega)).trans (hB5.block _ (by omega)), ?_, hs5.other _ (by dsimp only; omega) _, by simp; omega, (hB.trans (hB5.mono hs)).setCell (by simp) _⟩
    rw [orL_snoc, HQ.out]
    exact hblk
  case done =>
    rintro D ys W hD rfl ⟨hg, hs_, hle, hB⟩ hK
    have hs := hB.size
    have hs__l := hs_.lt
    have hs__c := hs_.cell
    have hown := owns_below HOW.out (hB.mono (Nat.le_refl _))
    rw [orL_all HC.out] at hg
    have hsl := setL_len v m
    gi_wp2_with (gi_at_builtin; refine wpListIn_append_own _ rfl _ _ 22 rfl lo 5 i0 _ 1 1 Try.underlying22 HI.out HZ0.out HZ1.out HZ2.out rfl (by decide) _ _ _ rfl hown ⟨w.heap.size + 1, 0, none⟩ m m (bytesV (setL v m)) rfl (by rw [bytesV_len, hsl, Nat.mul_one]) (blk_addE hg) (bytesV_one _) ?c3 ?c4 ?c5 ?_)
    case c3 => unfold maxLen; omega
    case c4 => omega
    case c5 => omega
    intro v' w3 hown' hgrow _
    have hkeep := keep_u8 (Ear.Keep.of_below hB) hown hgrow
    have hK3 := (KeepsOthers.of_grownBy hgrow (owns_cells hown)).same D _ hK rfl
    obtain ⟨base2, cap2, rfl⟩ := owns_slice hown'
    rw [← bytesV_append] at hown'
    clear hgrow hown
    gi_wp2
    refine ⟨by simp, .inl ⟨_, _, rfl, run_takeDeferred hK3, ?_⟩⟩
    exact ⟨.slice base2 (l.length + m) cap2, (by simp [results, Try.f61, go_sem]), base2, cap2, rfl, owns_ownF hown' (grownBy_putObj' _ D (.deferred none)) (B := 0) (fun r e => by cases e; exact ⟨by omega, _, hK3, rfl⟩), hkeep.grown (grownBy_putObj' _ D _) (fun k e => by cases e; right; omega)⟩
  case stop =>
    rintro D c pre W hD hp h hK
    exact h.elim
end Go.Proofs.Ytklfkfnckdeifaa
