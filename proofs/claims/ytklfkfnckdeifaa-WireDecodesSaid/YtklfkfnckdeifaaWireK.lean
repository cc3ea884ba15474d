/-
  What the methods of a query, a reply, a rumour answer.
-/
import Derived.Test.YtklfkfnckdeifaaWireJ
import Derived.Test.YtklfkfnckdeifaaBookY
namespace Go.Proofs.Ytklfkfnckdeifaa
set_option linter.unusedSimpArgs false
set_option linter.unusedVariables false
open Go.RowKit
attribute [local irreducible] Ear.Pl.wpQ Ear.Pa.wpQ Ear.Fe.wpQ Ear.Fa.wpQ sumP sumV digit putL setL by8 orL Ear.wd Ear.one Ear.clean riseFrom validN withinW newsL noteL bodyL bytesOf
/-- What Bytes answers: the refusal, and the bytes. -/
def bytesC (n kind from_ round : Int) (heard : BitVec 128) (L : List Nt) : List Int := if noteE n kind from_ round heard L = 0 then bytesOf n kind from_ round heard L else []
attribute [local irreducible] noteE
theorem bytesC_good {n kind from_ round : Int} {heard : BitVec 128} {L : List Nt} (h : noteE n kind from_ round heard L = 0) : bytesC n kind from_ round heard L = bytesOf n kind from_ round heard L := if_pos h
theorem bytesC_bad {n kind from_ round : Int} {heard : BitVec 128} {L : List Nt} (h : noteE n kind from_ round heard L ≠ 0) : bytesC n kind from_ round heard L = [] := if_neg h
theorem lineL_kind (n kind from_ round : Int) (heard : BitVec 128) : lineL n kind from_ (if kind = 3 then 1 else round) (if kind = 2 then heard else 0#128) = lineL n kind from_ round heard := by
  unfold lineL
  by_cases h3 : kind = 3
  · subst h3; rfl
  · by_cases h2 : kind = 2
    · subst h2; rfl
    · simp only [if_neg h2, if_neg h3]
theorem bytesOf_kind (n kind from_ round : Int) (heard : BitVec 128) (L : List Nt) : bytesOf n kind from_ (if kind = 3 then 1 else round) (if kind = 2 then heard else 0#128) L = bytesOf n kind from_ round heard L := by
  unfold bytesOf bodyL foreL
  rw [lineL_kind]
theorem noteE_ok1 {n kind from_ round : Int} {heard : BitVec 128} {L : List Nt} (h : noteE n kind from_ round heard L = 0) : 1 ≤ n := (note_okE h).1
/-- The post of Bytes: bytes in memory of its own. -/
abbrev bytesPost (w : World) (c : Int) (bs : List Int) (e : Ending) (w' : World) : Prop :=
  ∃ base cap, e = .returned (.tuple #[.slice base bs.length cap, .int .i64 c]) ∧ w'.ownsRow w.heap.size 5 1 (.slice base bs.length cap) bs.length (bytesV bs) ∧ Below w.heap.size w w'
theorem form_bytes {n kind from_ round : Int} {heard : BitVec 128} {L : List Nt} {nc : Nat} {nb : Option Addr} {w : World} {c : Int} {bs : List Int} (hk : kind = 1 ∨ kind = 2 ∨ kind = 3) (hc : noteE n kind from_ round heard L = c) (hbs : bytesC n kind from_ round heard L = bs) (hn : L.length ≤ 5000) (hl : LiesV (ntsV L) nb w) :
    Calls Try.prog 49 #[.agg #[.int .i64 n, .int .i64 kind, .int .i64 from_, .int .i64 (if kind = 3 then 1 else round), .int .u32 (Ear.wd (if kind = 2 then heard else 0#128) 0), .int .u32 (Ear.wd (if kind = 2 then heard else 0#128) 1), .int .u32 (Ear.wd (if kind = 2 then heard else 0#128) 2), .int .u32 (Ear.wd (if kind = 2 then heard else 0#128) 3), .slice nb L.length nc]] w (bytesPost w c bs) := by
  have hf : formE n from_ (if kind = 3 then 1 else round) (if kind = 2 then heard else 0#128) L = c := by rw [← hc]; unfold noteE; rfl
  by_cases c0 : c = 0
  · have hc0 : noteE n kind from_ round heard L = 0 := hc.trans c0
    have n1 := noteE_ok1 hc0
    obtain ⟨N, rfl⟩ : ∃ N : Nat, n = N := ⟨n.toNat, by omega⟩
    subst c0
    rw [bytesC_good hc0] at hbs
    subst hbs
    have h := bytes_good (nc := nc) hk hf hl
    rw [bytesOf_kind] at h
    exact h
  · have hc0 : noteE n kind from_ round heard L ≠ 0 := by rw [hc]; exact c0
    rw [bytesC_bad hc0] at hbs
    subst hbs
    exact Calls.mono (bytes_bad hf c0 hn hl) (by rintro e w' ⟨rfl, hb⟩; exact ⟨none, 0, rfl, World.ownsRow_nil _ _ _ _, hb⟩)
theorem ref_bytes {n kind from_ round : Int} {heard : BitVec 128} {L : List Nt} {nc : Nat} {nb : Option Addr} {w : World} {c : Int} {bs : List Int} (hk : kind = 1 ∨ kind = 2 ∨ kind = 3) (hc : noteE n kind from_ round heard L = c) (hbs : bytesC n kind from_ round heard L = bs) (hn : L.length ≤ 5000) (hl : LiesV (ntsV L) nb w) :
    Calls Try.prog 21 #[.agg #[.int .i64 kind, .int .i64 from_, .int .i64 round, .int .u32 (Ear.wd heard 0), .int .u32 (Ear.wd heard 1), .int .u32 (Ear.wd heard 2), .int .u32 (Ear.wd heard 3), .slice nb L.length nc], .int .i64 n] w (bytesPost w c bs) := by
  by_cases c0 : c = 0
  · have hc0 : noteE n kind from_ round heard L = 0 := hc.trans c0
    have n1 := noteE_ok1 hc0
    obtain ⟨N, rfl⟩ : ∃ N : Nat, n = N := ⟨n.toNat, by omega⟩
    subst c0
    rw [bytesC_good hc0] at hbs
    subst hbs
    exact RBytes_good hk hc0 hl
  · have hc0 : noteE n kind from_ round heard L ≠ 0 := by rw [hc]; exact c0
    rw [bytesC_bad hc0] at hbs
    subst hbs
    exact Calls.mono (RBytes_bad hk hc c0 hn hl) (by rintro e w' ⟨rfl, hb⟩; exact ⟨none, 0, rfl, World.ownsRow_nil _ _ _ _, hb⟩)
/-- Clone of notices, wherever they lie. -/
theorem eqNilNa (a : Addr) (n c : Nat) (W : World) : Sem.run Try.prog (binOp BinOp.eql 31 (.slice (some a) n c) (.slice none 0 0)) W = .ok (.bool false) W := by kernel_rfl
theorem eqNilNn (n c : Nat) (W : World) : Sem.run Try.prog (binOp BinOp.eql 31 (.slice none n c) (.slice none 0 0)) W = .ok (.bool true) W := by kernel_rfl
attribute [local go_sem] eqNilNa eqNilNn
abbrev newsPost (w : World) (L : List Nt) (e : Ending) (w' : World) : Prop :=
  ∃ base cap, e = .returned (.slice base L.length cap) ∧ w'.ownsRow w.heap.size 84 3 (.slice base L.length cap) L.length (ntsV L) ∧ Below w.heap.size w w'
set_option maxRecDepth 100000 in
set_option maxHeartbeats 1000000 in
theorem NClone_v (L : List Nt) (nb : Option Addr) (nc : Nat) (w : World) (hl : LiesV (ntsV L) nb w) (hn : L.length ≤ 100000) :
    Calls Try.prog 96 #[.slice nb L.length nc] w (newsPost w L) := by
  obtain ⟨i0, hi, hz0, hz1, hz2⟩ := info_parts info_nt
  have HI := Lib.hid hi
  have HZ0 := Lib.hid hz0
  have HZ1 := Lib.hid hz1
  have HZ2 := Lib.hid hz2
  have HL := Lib.hid hl
  have HLL := Lib.hid (ntsV_len L)
  clear hi hz0 hz1 hz2 hl
  cases nb with
  | none =>
    have hL0 : L = [] := by
      cases L with
      | nil => rfl
      | cons x t => obtain ⟨B, o, he, -⟩ := HL.out 0 (by simp [ntsV, ntV]); cases he
    subst hL0
    go_enter Try.func96, Try.ntmps96
    go_wp2
    go_ret
    exact ⟨none, 0, rfl, World.ownsRow_nil _ _ _ _, Below.refl _ _⟩
  | some ad =>
    go_enter Try.func96, Try.ntmps96
    go_wp2_with (at_builtin; refine wpList_append_own _ rfl _ _ 31 rfl w.heap.size 84 i0 _ 3 24 Try.underlying31 HI.out HZ0.out HZ1.out HZ2.out rfl (by decide) _ 0 [] rfl (World.ownsRow_made w #[] 0 (Nat.le_refl _) (by simp) rfl) ad L.length nc (ntsV L) rfl HLL.out ?c1 (ntsV_one L) ?c3 ?c4 ?c5 ?_)
    case c1 =>
      intro j u hj
      have hjl : j < (ntsV L).length := (List.getElem?_eq_some_iff.1 hj).1
      obtain ⟨B, o, he, hBl, hcell⟩ := HL.out j hjl
      simp only [Option.some.injEq] at he
      subst he
      rw [show (⟨B, o, none⟩ : Addr).add j = ⟨B, o + j, none⟩ from by unfold Addr.add; by_cases h : j = 0 <;> simp [h], ← hj, ← hcell]
      exact World.cell?_of_block (Below.heap_alloc w _ B hBl)
    case c3 => unfold maxLen; omega
    case c4 => omega
    case c5 => first | omega | (simp; done) | (simp; omega)
    intro v' w3 hown' hgrow _
    obtain ⟨base', cap', rfl⟩ := owns_slice hown'
    have HO := Lib.hid hown'
    have hB3 : Below w.heap.size w w3 := ((Below.refl _ w).alloc (Nat.le_refl _) _).grown hgrow (by simp) (fun j hj => by simp [Value.ownBlock] at hj; omega)
    clear hown' hgrow
    go_wp2
    go_ret
    exact ⟨base', cap', by simp, by simpa using HO.out, hB3⟩
set_option maxHeartbeats 1000000 in
theorem KindOfQ (from_ round : Int) (L : List Nt) (nb : Option Addr) (nc : Nat) (w : World) : Calls Try.prog 46 #[.agg #[.int .i64 from_, .int .i64 round, .slice nb L.length nc]] w fun e w' => e = .returned (.int .i64 1) ∧ Below w.heap.size w w' := by
  go_enter Try.func46, Try.ntmps46
  go_wp2
  go_ret
  exact ⟨rfl, by (repeat' (first | (with_reducible exact Below.refl _ _) | (with_reducible assumption) | (show Below 0 _ _; with_reducible refine Below.mono (by assumption) (Nat.zero_le _)) | (with_reducible refine below_setRow ?_ ?_ _) | (with_reducible refine Below.alloc ?_ ?_ _) | (with_reducible refine Below.drew ?_) | (with_reducible refine Below.setCell ?_ ?_ _) | (with_reducible refine Below.frame ?_ _) | (with_reducible exact Nat.le_refl _) | omega | (simp only [World.size_alloc, World.size_setCell, World.size_drew, setRow_size]; omega) | (simp; omega) | (simp; done)))⟩
set_option maxHeartbeats 1000000 in
theorem SenderQ (from_ round : Int) (L : List Nt) (nb : Option Addr) (nc : Nat) (w : World) : Calls Try.prog 94 #[.agg #[.int .i64 from_, .int .i64 round, .slice nb L.length nc]] w fun e w' => e = .returned (.int .i64 from_) ∧ Below w.heap.size w w' := by
  go_enter Try.func94, Try.ntmps94
  go_wp2
  go_ret
  exact ⟨rfl, by (repeat' (first | (with_reducible exact Below.refl _ _) | (with_reducible assumption) | (show Below 0 _ _; with_reducible refine Below.mono (by assumption) (Nat.zero_le _)) | (with_reducible refine below_setRow ?_ ?_ _) | (with_reducible refine Below.alloc ?_ ?_ _) | (with_reducible refine Below.drew ?_) | (with_reducible refine Below.setCell ?_ ?_ _) | (with_reducible refine Below.frame ?_ _) | (with_reducible exact Nat.le_refl _) | omega | (simp only [World.size_alloc, World.size_setCell, World.size_drew, setRow_size]; omega) | (simp; omega) | (simp; done)))⟩
set_option maxRecDepth 100000 in
set_option maxHeartbeats 1000000 in
theorem NoticesQ (from_ round : Int) {L : List Nt} {nb : Option Addr} (nc : Nat) {w : World} (hl : LiesV (ntsV L) nb w) (hn : L.length ≤ 100000) : Calls Try.prog 93 #[.agg #[.int .i64 from_, .int .i64 round, .slice nb L.length nc]] w (newsPost w L) := by
  have HL := Lib.hid hl
  clear hl
  go_enter Try.func93, Try.ntmps93
  go_wp2_with (go_at_call 96; (with_reducible refine Calls.mono (NClone_v L nb nc _ (HL.out.below (by (repeat' (first | (with_reducible exact Below.refl _ _) | (with_reducible assumption) | (show Below 0 _ _; with_reducible refine Below.mono (by assumption) (Nat.zero_le _)) | (with_reducible refine below_setRow ?_ ?_ _) | (with_reducible refine Below.alloc ?_ ?_ _) | (with_reducible refine Below.drew ?_) | (with_reducible refine Below.setCell ?_ ?_ _) | (with_reducible refine Below.frame ?_ _) | (with_reducible exact Nat.le_refl _) | omega | (simp only [World.size_alloc, World.size_setCell, World.size_drew, setRow_size]; omega) | (simp; omega) | (simp; done))))) hn) ?_); rintro e w2 ⟨b2, c2, rfl, hown2, hb2⟩; have hq1 : w.heap.size ≤ (w.alloc (.cells #[.int .i64 from_, .int .i64 round, .slice nb L.length nc] 55)).heap.size := (by (try simp only [World.size_alloc, World.size_setCell, World.size_drew, setRow_size]); omega); have HO := Lib.hid (owns_base hown2 hq1); have hB : Below w.heap.size w w2 := Below.trans (by (repeat' (first | (with_reducible exact Below.refl _ _) | (with_reducible assumption) | (show Below 0 _ _; with_reducible refine Below.mono (by assumption) (Nat.zero_le _)) | (with_reducible refine below_setRow ?_ ?_ _) | (with_reducible refine Below.alloc ?_ ?_ _) | (with_reducible refine Below.drew ?_) | (with_reducible refine Below.setCell ?_ ?_ _) | (with_reducible refine Below.frame ?_ _) | (with_reducible exact Nat.le_refl _) | omega | (simp only [World.size_alloc, World.size_setCell, World.size_drew, setRow_size]; omega) | (simp; omega) | (simp; done)))) (hb2.mono (by (try simp only [World.size_alloc, World.size_setCell, World.size_drew, setRow_size]); omega)); clear hown2 hb2)
  go_ret
  exact ⟨b2, c2, rfl, HO.out, hB⟩
theorem form_bytesQ {n from_ round : Int} {L : List Nt} {nc : Nat} {nb : Option Addr} {w : World} {c : Int} {bs : List Int} (hc : noteE n 1 from_ round 0#128 L = c) (hbs : bytesC n 1 from_ round 0#128 L = bs) (hn : L.length ≤ 5000) (hl : LiesV (ntsV L) nb w) :
    Calls Try.prog 49 #[.agg #[.int .i64 n, .int .i64 1, .int .i64 from_, .int .i64 round, .int .u32 0, .int .u32 0, .int .u32 0, .int .u32 0, .slice nb L.length nc]] w (bytesPost w c bs) := by
  have h := form_bytes (nc := nc) (by decide) hc hbs hn hl
  rw [if_neg (by decide), if_neg (by decide)] at h; simp only [Ear.wd_zero] at h
  exact h
set_option maxRecDepth 100000 in
set_option maxHeartbeats 4000000 in
theorem BytesQ {n from_ round : Int} {L : List Nt} {nb : Option Addr} {nc : Nat} {w : World} {c : Int} {bs : List Int} (hc : noteE n 1 from_ round 0#128 L = c) (hbs : bytesC n 1 from_ round 0#128 L = bs) (hn : L.length ≤ 5000) (hl : LiesV (ntsV L) nb w) : Calls Try.prog 37 #[.agg #[.int .i64 from_, .int .i64 round, .slice nb L.length nc], .int .i64 n] w (bytesPost w c bs) := by
  have HL := Lib.hid hl
  have HFB := Lib.hid (fun (W : World) (h : LiesV (ntsV L) nb W) => form_bytesQ (nc := nc) hc hbs hn h)
  clear hl hc hbs
  go_enter Try.func37, Try.ntmps37
  go_wp2
  refine Ear.wp_world (Ear.Sh w.heap.size w [(w.heap.size, _, _)]) (.cons (by (repeat' (first | (show Ear.Blk _ _ _ _; with_reducible assumption) | (with_reducible exact Ear.Blk.new _ _ _) | (with_reducible refine Ear.Blk.new' ?_; (simp only [World.size_alloc, World.size_setCell, World.size_drew, setRow_size]; done)) | (with_reducible apply Ear.Blk.alloc) | (with_reducible apply Ear.Blk.drew) | (with_reducible apply Ear.Blk.setC) | (with_reducible apply Ear.Blk.setC' (e := by omega)) | (with_reducible apply Ear.Blk.rowC (e := by first | rfl | omega)) | (with_reducible apply Ear.Blk.otherRow) | (with_reducible apply Ear.Blk.other) | (show _ ≠ _; (try simp only [World.size_alloc, World.size_setCell, World.size_drew, setRow_size]); omega) | (show _ < _; (try simp only [World.size_alloc, World.size_setCell, World.size_drew, setRow_size]); omega)))) (.nil (by (repeat' (first | (with_reducible exact Below.refl _ _) | (with_reducible assumption) | (show Below 0 _ _; with_reducible refine Below.mono (by assumption) (Nat.zero_le _)) | (with_reducible refine below_setRow ?_ ?_ _) | (with_reducible refine Below.alloc ?_ ?_ _) | (with_reducible refine Below.drew ?_) | (with_reducible refine Below.setCell ?_ ?_ _) | (with_reducible refine Below.frame ?_ _) | (with_reducible exact Nat.le_refl _) | omega | (simp only [World.size_alloc, World.size_setCell, World.size_drew, setRow_size]; omega) | (simp; omega) | (simp; done)))))) ?_; (try clear hq_l); (try clear hq_c); (try clear hq_f); (try clear hq); (try clear hB hs); rintro w1 ⟨hq, hB⟩; replace hB : Below w.heap.size w w1 := hB; have hs := hB.size; (try simp only [List.set_cons_zero, List.set_cons_succ] at hq); have hq_l := hq.lt; have hq_c := hq.cell; have hq_f := hq.frozen
  refine Ear.Pl.C2.wp_region_qrb 10 #[true, true, true, true, true, true, true, true, true, true, false, false, false, false, false] (by kernel_rfl) (by kernel_rfl) (fun C hC1 hC2 => ?_); simp only [List.take_succ_cons, List.take_zero, List.drop_succ_cons, List.drop_zero]
  (iterate 2 (refine Ear.Pl.wpQ_run (by rfl) ?_; apply Exists.intro; refine ⟨fun K Q hK w' hw' => ?_, ?_⟩; (focus (obtain ⟨hc', hf'⟩ := Ear.bcell (hC1.out w' hw'); simp only [Act.put, List.setIfInBounds_toArray, List.set_cons_succ, List.set_cons_zero] at hK; go_wp2; exact hw')); simp only [Act.put, List.setIfInBounds_toArray, List.set_cons_succ, List.set_cons_zero]))
  refine Ear.Pl.wpQ_run (by rfl) ?_; apply Exists.intro; refine ⟨fun K Q hK w' hw' => ?_, ?_⟩; (focus (simp only [Act.put, List.setIfInBounds_toArray, List.set_cons_succ, List.set_cons_zero] at hK; go_wp2_with (refine (KindOfQ _ _ _ _ _ _).mono ?_; rintro e w'' ⟨rfl, hb''⟩); exact hC2.out _ _ hw' hb'')); simp only [Act.put, List.setIfInBounds_toArray, List.set_cons_succ, List.set_cons_zero]
  (iterate 7 (refine Ear.Pl.wpQ_run (by rfl) ?_; apply Exists.intro; refine ⟨fun K Q hK w' hw' => ?_, ?_⟩; (focus (obtain ⟨hc', hf'⟩ := Ear.bcell (hC1.out w' hw'); simp only [Act.put, List.setIfInBounds_toArray, List.set_cons_succ, List.set_cons_zero] at hK; go_wp2; exact hw')); simp only [Act.put, List.setIfInBounds_toArray, List.set_cons_succ, List.set_cons_zero]))
  refine Ear.Pl.wpQ_nil ?_
  intro w2 hb2
  clear hC1 hC2
  have hq2 : Below w.heap.size w w2 := hB.trans ((((Below.refl _ w1).drew).trans hb2).mono hs)
  have hs2 := hq2.size
  have HL2 := Lib.hid (HL.out.below hq2)
  have HFF := Lib.hid (HFB.out w2 HL2.out)
  clear hb2 HFB
  refine wpAny_ready (rs := [10]) (by kernel_rfl) (by simp) ?_; refine AllReady.cons rfl (fun K hK => ?_) ?_; (focus ((go_simp); (first | (refine hK _ _ ?_; clear hK K) | (go_wp2_with ((go_at_call 49; (with_reducible refine Calls.mono HFF.out ?_); rintro e w3 ⟨b3, c3, rfl, hown3, hb3⟩; have HO3 := Lib.hid hown3; have hB3 := hq2.trans (hb3.mono hs2); clear hown3 hb3)); first | (show wpAny _ _ _ _ _ _ _ _; skip) | (refine hK _ _ ?_); (try clear hK K))); refine wpAny_ready (rs := [11,12]) (by kernel_rfl) (by simp) ?_; refine AllReady.cons rfl (fun K hK => ?_) ?_; (focus ((go_simp); (first | (refine hK _ _ ?_; clear hK K) | (go_wp2_with ((go_at_call 49; (with_reducible refine Calls.mono HFF.out ?_); rintro e w3 ⟨b3, c3, rfl, hown3, hb3⟩; have HO3 := Lib.hid hown3; have hB3 := hq2.trans (hb3.mono hs2); clear hown3 hb3)); first | (show wpAny _ _ _ _ _ _ _ _; skip) | (refine hK _ _ ?_); (try clear hK K))); refine wpAny_ready (rs := [12]) (by kernel_rfl) (by simp) ?_; refine AllReady.cons rfl (fun K hK => ?_) ?_; (focus ((go_simp); (first | (refine hK _ _ ?_; clear hK K) | (go_wp2_with ((go_at_call 49; (with_reducible refine Calls.mono HFF.out ?_); rintro e w3 ⟨b3, c3, rfl, hown3, hb3⟩; have HO3 := Lib.hid hown3; have hB3 := hq2.trans (hb3.mono hs2); clear hown3 hb3)); first | (show wpAny _ _ _ _ _ _ _ _; skip) | (refine hK _ _ ?_); (try clear hK K))); refine wpAny_ready (rs := [13]) (by kernel_rfl) (by simp) ?_; refine AllReady.cons rfl (fun K hK => ?_) ?_; (focus ((go_simp); (first | (refine hK _ _ ?_; clear hK K) | (go_wp2_with ((go_at_call 49; (with_reducible refine Calls.mono HFF.out ?_); rintro e w3 ⟨b3, c3, rfl, hown3, hb3⟩; have HO3 := Lib.hid hown3; have hB3 := hq2.trans (hb3.mono hs2); clear hown3 hb3)); first | (show wpAny _ _ _ _ _ _ _ _; skip) | (refine hK _ _ ?_); (try clear hK K))); refine wpAny_ready (rs := [14]) (by kernel_rfl) (by simp) ?_; refine AllReady.cons rfl (fun K hK => ?_) ?_; (focus ((go_simp); (first | (refine hK _ _ ?_; clear hK K) | (go_wp2_with ((go_at_call 49; (with_reducible refine Calls.mono HFF.out ?_); rintro e w3 ⟨b3, c3, rfl, hown3, hb3⟩; have HO3 := Lib.hid hown3; have hB3 := hq2.trans (hb3.mono hs2); clear hown3 hb3)); first | (show wpAny _ _ _ _ _ _ _ _; skip) | (refine hK _ _ ?_); (try clear hK K))); refine wpAny_done (by kernel_rfl) ?_ _; (try dsimp only [Act.put, List.setIfInBounds_toArray, List.set_cons_succ, List.set_cons_zero]); go_wp2; go_ret2; exact ⟨b3, c3, rfl, owns_base HO3.out hs2, hB3⟩)); exact AllReady.nil)); exact AllReady.nil)); exact AllReady.nil)); refine AllReady.cons rfl (fun K hK => ?_) ?_; (focus ((go_simp); (first | (refine hK _ _ ?_; clear hK K) | (go_wp2_with ((go_at_call 49; (with_reducible refine Calls.mono HFF.out ?_); rintro e w3 ⟨b3, c3, rfl, hown3, hb3⟩; have HO3 := Lib.hid hown3; have hB3 := hq2.trans (hb3.mono hs2); clear hown3 hb3)); first | (show wpAny _ _ _ _ _ _ _ _; skip) | (refine hK _ _ ?_); (try clear hK K))); refine wpAny_ready (rs := [11]) (by kernel_rfl) (by simp) ?_; refine AllReady.cons rfl (fun K hK => ?_) ?_; (focus ((go_simp); (first | (refine hK _ _ ?_; clear hK K) | (go_wp2_with ((go_at_call 49; (with_reducible refine Calls.mono HFF.out ?_); rintro e w3 ⟨b3, c3, rfl, hown3, hb3⟩; have HO3 := Lib.hid hown3; have hB3 := hq2.trans (hb3.mono hs2); clear hown3 hb3)); first | (show wpAny _ _ _ _ _ _ _ _; skip) | (refine hK _ _ ?_); (try clear hK K))); refine wpAny_ready (rs := [13]) (by kernel_rfl) (by simp) ?_; refine AllReady.cons rfl (fun K hK => ?_) ?_; (focus ((go_simp); (first | (refine hK _ _ ?_; clear hK K) | (go_wp2_with ((go_at_call 49; (with_reducible refine Calls.mono HFF.out ?_); rintro e w3 ⟨b3, c3, rfl, hown3, hb3⟩; have HO3 := Lib.hid hown3; have hB3 := hq2.trans (hb3.mono hs2); clear hown3 hb3)); first | (show wpAny _ _ _ _ _ _ _ _; skip) | (refine hK _ _ ?_); (try clear hK K))); refine wpAny_ready (rs := [14]) (by kernel_rfl) (by simp) ?_; refine AllReady.cons rfl (fun K hK => ?_) ?_; (focus ((go_simp); (first | (refine hK _ _ ?_; clear hK K) | (go_wp2_with ((go_at_call 49; (with_reducible refine Calls.mono HFF.out ?_); rintro e w3 ⟨b3, c3, rfl, hown3, hb3⟩; have HO3 := Lib.hid hown3; have hB3 := hq2.trans (hb3.mono hs2); clear hown3 hb3)); first | (show wpAny _ _ _ _ _ _ _ _; skip) | (refine hK _ _ ?_); (try clear hK K))); refine wpAny_done (by kernel_rfl) ?_ _; (try dsimp only [Act.put, List.setIfInBounds_toArray, List.set_cons_succ, List.set_cons_zero]); go_wp2; go_ret2; exact ⟨b3, c3, rfl, owns_base HO3.out hs2, hB3⟩)); exact AllReady.nil)); exact AllReady.nil)); exact AllReady.nil)); exact AllReady.nil)); exact AllReady.nil
set_option maxHeartbeats 1000000 in
theorem KindOfP (from_ round : Int) (heard : BitVec 128) (L : List Nt) (nb : Option Addr) (nc : Nat) (w : World) : Calls Try.prog 47 #[.agg #[.int .i64 from_, .int .i64 round, .int .u32 (Ear.wd heard 0), .int .u32 (Ear.wd heard 1), .int .u32 (Ear.wd heard 2), .int .u32 (Ear.wd heard 3), .slice nb L.length nc]] w fun e w' => e = .returned (.int .i64 2) ∧ Below w.heap.size w w' := by
  go_enter Try.func47, Try.ntmps47
  go_wp2
  go_ret
  exact ⟨rfl, by (repeat' (first | (with_reducible exact Below.refl _ _) | (with_reducible assumption) | (show Below 0 _ _; with_reducible refine Below.mono (by assumption) (Nat.zero_le _)) | (with_reducible refine below_setRow ?_ ?_ _) | (with_reducible refine Below.alloc ?_ ?_ _) | (with_reducible refine Below.drew ?_) | (with_reducible refine Below.setCell ?_ ?_ _) | (with_reducible refine Below.frame ?_ _) | (with_reducible exact Nat.le_refl _) | omega | (simp only [World.size_alloc, World.size_setCell, World.size_drew, setRow_size]; omega) | (simp; omega) | (simp; done)))⟩
set_option maxHeartbeats 1000000 in
theorem SenderP (from_ round : Int) (heard : BitVec 128) (L : List Nt) (nb : Option Addr) (nc : Nat) (w : World) : Calls Try.prog 99 #[.agg #[.int .i64 from_, .int .i64 round, .int .u32 (Ear.wd heard 0), .int .u32 (Ear.wd heard 1), .int .u32 (Ear.wd heard 2), .int .u32 (Ear.wd heard 3), .slice nb L.length nc]] w fun e w' => e = .returned (.int .i64 from_) ∧ Below w.heap.size w w' := by
  go_enter Try.func99, Try.ntmps99
  go_wp2
  go_ret
  exact ⟨rfl, by (repeat' (first | (with_reducible exact Below.refl _ _) | (with_reducible assumption) | (show Below 0 _ _; with_reducible refine Below.mono (by assumption) (Nat.zero_le _)) | (with_reducible refine below_setRow ?_ ?_ _) | (with_reducible refine Below.alloc ?_ ?_ _) | (with_reducible refine Below.drew ?_) | (with_reducible refine Below.setCell ?_ ?_ _) | (with_reducible refine Below.frame ?_ _) | (with_reducible exact Nat.le_refl _) | omega | (simp only [World.size_alloc, World.size_setCell, World.size_drew, setRow_size]; omega) | (simp; omega) | (simp; done)))⟩
set_option maxRecDepth 100000 in
set_option maxHeartbeats 1000000 in
theorem NoticesP (from_ round : Int) (heard : BitVec 128) {L : List Nt} {nb : Option Addr} (nc : Nat) {w : World} (hl : LiesV (ntsV L) nb w) (hn : L.length ≤ 100000) : Calls Try.prog 98 #[.agg #[.int .i64 from_, .int .i64 round, .int .u32 (Ear.wd heard 0), .int .u32 (Ear.wd heard 1), .int .u32 (Ear.wd heard 2), .int .u32 (Ear.wd heard 3), .slice nb L.length nc]] w (newsPost w L) := by
  have HL := Lib.hid hl
  clear hl
  go_enter Try.func98, Try.ntmps98
  go_wp2_with (go_at_call 96; (with_reducible refine Calls.mono (NClone_v L nb nc _ (HL.out.below (by (repeat' (first | (with_reducible exact Below.refl _ _) | (with_reducible assumption) | (show Below 0 _ _; with_reducible refine Below.mono (by assumption) (Nat.zero_le _)) | (with_reducible refine below_setRow ?_ ?_ _) | (with_reducible refine Below.alloc ?_ ?_ _) | (with_reducible refine Below.drew ?_) | (with_reducible refine Below.setCell ?_ ?_ _) | (with_reducible refine Below.frame ?_ _) | (with_reducible exact Nat.le_refl _) | omega | (simp only [World.size_alloc, World.size_setCell, World.size_drew, setRow_size]; omega) | (simp; omega) | (simp; done))))) hn) ?_); rintro e w2 ⟨b2, c2, rfl, hown2, hb2⟩; have hq1 : w.heap.size ≤ (w.alloc (.cells #[.int .i64 from_, .int .i64 round, .int .u32 (Ear.wd heard 0), .int .u32 (Ear.wd heard 1), .int .u32 (Ear.wd heard 2), .int .u32 (Ear.wd heard 3), .slice nb L.length nc] 58)).heap.size := (by (try simp only [World.size_alloc, World.size_setCell, World.size_drew, setRow_size]); omega); have HO := Lib.hid (owns_base hown2 hq1); have hB : Below w.heap.size w w2 := Below.trans (by (repeat' (first | (with_reducible exact Below.refl _ _) | (with_reducible assumption) | (show Below 0 _ _; with_reducible refine Below.mono (by assumption) (Nat.zero_le _)) | (with_reducible refine below_setRow ?_ ?_ _) | (with_reducible refine Below.alloc ?_ ?_ _) | (with_reducible refine Below.drew ?_) | (with_reducible refine Below.setCell ?_ ?_ _) | (with_reducible refine Below.frame ?_ _) | (with_reducible exact Nat.le_refl _) | omega | (simp only [World.size_alloc, World.size_setCell, World.size_drew, setRow_size]; omega) | (simp; omega) | (simp; done)))) (hb2.mono (by (try simp only [World.size_alloc, World.size_setCell, World.size_drew, setRow_size]); omega)); clear hown2 hb2)
  go_ret
  exact ⟨b2, c2, rfl, HO.out, hB⟩
theorem form_bytesP {n from_ round : Int} {heard : BitVec 128} {L : List Nt} {nc : Nat} {nb : Option Addr} {w : World} {c : Int} {bs : List Int} (hc : noteE n 2 from_ round heard L = c) (hbs : bytesC n 2 from_ round heard L = bs) (hn : L.length ≤ 5000) (hl : LiesV (ntsV L) nb w) :
    Calls Try.prog 49 #[.agg #[.int .i64 n, .int .i64 2, .int .i64 from_, .int .i64 round, .int .u32 (Ear.wd heard 0), .int .u32 (Ear.wd heard 1), .int .u32 (Ear.wd heard 2), .int .u32 (Ear.wd heard 3), .slice nb L.length nc]] w (bytesPost w c bs) := by
  have h := form_bytes (nc := nc) (by decide) hc hbs hn hl
  rw [if_neg (by decide), if_pos rfl] at h
  exact h
set_option maxRecDepth 100000 in
set_option maxHeartbeats 4000000 in
theorem BytesP {n from_ round : Int} {heard : BitVec 128} {L : List Nt} {nb : Option Addr} {nc : Nat} {w : World} {c : Int} {bs : List Int} (hc : noteE n 2 from_ round heard L = c) (hbs : bytesC n 2 from_ round heard L = bs) (hn : L.length ≤ 5000) (hl : LiesV (ntsV L) nb w) : Calls Try.prog 97 #[.agg #[.int .i64 from_, .int .i64 round, .int .u32 (Ear.wd heard 0), .int .u32 (Ear.wd heard 1), .int .u32 (Ear.wd heard 2), .int .u32 (Ear.wd heard 3), .slice nb L.length nc], .int .i64 n] w (bytesPost w c bs) := by
  have HL := Lib.hid hl
  have HFB := Lib.hid (fun (W : World) (h : LiesV (ntsV L) nb W) => form_bytesP (nc := nc) hc hbs hn h)
  clear hl hc hbs
  go_enter Try.func97, Try.ntmps97
  go_wp2
  refine Ear.wp_world (Ear.Sh w.heap.size w [(w.heap.size, _, _)]) (.cons (by (repeat' (first | (show Ear.Blk _ _ _ _; with_reducible assumption) | (with_reducible exact Ear.Blk.new _ _ _) | (with_reducible refine Ear.Blk.new' ?_; (simp only [World.size_alloc, World.size_setCell, World.size_drew, setRow_size]; done)) | (with_reducible apply Ear.Blk.alloc) | (with_reducible apply Ear.Blk.drew) | (with_reducible apply Ear.Blk.setC) | (with_reducible apply Ear.Blk.setC' (e := by omega)) | (with_reducible apply Ear.Blk.rowC (e := by first | rfl | omega)) | (with_reducible apply Ear.Blk.otherRow) | (with_reducible apply Ear.Blk.other) | (show _ ≠ _; (try simp only [World.size_alloc, World.size_setCell, World.size_drew, setRow_size]); omega) | (show _ < _; (try simp only [World.size_alloc, World.size_setCell, World.size_drew, setRow_size]); omega)))) (.nil (by (repeat' (first | (with_reducible exact Below.refl _ _) | (with_reducible assumption) | (show Below 0 _ _; with_reducible refine Below.mono (by assumption) (Nat.zero_le _)) | (with_reducible refine below_setRow ?_ ?_ _) | (with_reducible refine Below.alloc ?_ ?_ _) | (with_reducible refine Below.drew ?_) | (with_reducible refine Below.setCell ?_ ?_ _) | (with_reducible refine Below.frame ?_ _) | (with_reducible exact Nat.le_refl _) | omega | (simp only [World.size_alloc, World.size_setCell, World.size_drew, setRow_size]; omega) | (simp; omega) | (simp; done)))))) ?_; (try clear hq_l); (try clear hq_c); (try clear hq_f); (try clear hq); (try clear hB hs); rintro w1 ⟨hq, hB⟩; replace hB : Below w.heap.size w w1 := hB; have hs := hB.size; (try simp only [List.set_cons_zero, List.set_cons_succ] at hq); have hq_l := hq.lt; have hq_c := hq.cell; have hq_f := hq.frozen
  refine Ear.Pl.C2.wp_region_qrb 12 #[true, true, true, true, true, true, true, true, true, true, true, true, false, false, false, false, false] (by kernel_rfl) (by kernel_rfl) (fun C hC1 hC2 => ?_); simp only [List.take_succ_cons, List.take_zero, List.drop_succ_cons, List.drop_zero]
  (iterate 2 (refine Ear.Pl.wpQ_run (by rfl) ?_; apply Exists.intro; refine ⟨fun K Q hK w' hw' => ?_, ?_⟩; (focus (obtain ⟨hc', hf'⟩ := Ear.bcell (hC1.out w' hw'); simp only [Act.put, List.setIfInBounds_toArray, List.set_cons_succ, List.set_cons_zero] at hK; go_wp2; exact hw')); simp only [Act.put, List.setIfInBounds_toArray, List.set_cons_succ, List.set_cons_zero]))
  refine Ear.Pl.wpQ_run (by rfl) ?_; apply Exists.intro; refine ⟨fun K Q hK w' hw' => ?_, ?_⟩; (focus (simp only [Act.put, List.setIfInBounds_toArray, List.set_cons_succ, List.set_cons_zero] at hK; go_wp2_with (refine (KindOfP _ _ _ _ _ _ _).mono ?_; rintro e w'' ⟨rfl, hb''⟩); exact hC2.out _ _ hw' hb'')); simp only [Act.put, List.setIfInBounds_toArray, List.set_cons_succ, List.set_cons_zero]
  (iterate 9 (refine Ear.Pl.wpQ_run (by rfl) ?_; apply Exists.intro; refine ⟨fun K Q hK w' hw' => ?_, ?_⟩; (focus (obtain ⟨hc', hf'⟩ := Ear.bcell (hC1.out w' hw'); simp only [Act.put, List.setIfInBounds_toArray, List.set_cons_succ, List.set_cons_zero] at hK; go_wp2; exact hw')); simp only [Act.put, List.setIfInBounds_toArray, List.set_cons_succ, List.set_cons_zero]))
  refine Ear.Pl.wpQ_nil ?_
  intro w2 hb2
  clear hC1 hC2
  have hq2 : Below w.heap.size w w2 := hB.trans ((((Below.refl _ w1).drew).trans hb2).mono hs)
  have hs2 := hq2.size
  have HL2 := Lib.hid (HL.out.below hq2)
  have HFF := Lib.hid (HFB.out w2 HL2.out)
  clear hb2 HFB
  refine wpAny_ready (rs := [12]) (by kernel_rfl) (by simp) ?_; refine AllReady.cons rfl (fun K hK => ?_) ?_; (focus ((go_simp); (first | (refine hK _ _ ?_; clear hK K) | (go_wp2_with ((go_at_call 49; (with_reducible refine Calls.mono HFF.out ?_); rintro e w3 ⟨b3, c3, rfl, hown3, hb3⟩; have HO3 := Lib.hid hown3; have hB3 := hq2.trans (hb3.mono hs2); clear hown3 hb3)); first | (show wpAny _ _ _ _ _ _ _ _; skip) | (refine hK _ _ ?_); (try clear hK K))); refine wpAny_ready (rs := [13,14]) (by kernel_rfl) (by simp) ?_; refine AllReady.cons rfl (fun K hK => ?_) ?_; (focus ((go_simp); (first | (refine hK _ _ ?_; clear hK K) | (go_wp2_with ((go_at_call 49; (with_reducible refine Calls.mono HFF.out ?_); rintro e w3 ⟨b3, c3, rfl, hown3, hb3⟩; have HO3 := Lib.hid hown3; have hB3 := hq2.trans (hb3.mono hs2); clear hown3 hb3)); first | (show wpAny _ _ _ _ _ _ _ _; skip) | (refine hK _ _ ?_); (try clear hK K))); refine wpAny_ready (rs := [14]) (by kernel_rfl) (by simp) ?_; refine AllReady.cons rfl (fun K hK => ?_) ?_; (focus ((go_simp); (first | (refine hK _ _ ?_; clear hK K) | (go_wp2_with ((go_at_call 49; (with_reducible refine Calls.mono HFF.out ?_); rintro e w3 ⟨b3, c3, rfl, hown3, hb3⟩; have HO3 := Lib.hid hown3; have hB3 := hq2.trans (hb3.mono hs2); clear hown3 hb3)); first | (show wpAny _ _ _ _ _ _ _ _; skip) | (refine hK _ _ ?_); (try clear hK K))); refine wpAny_ready (rs := [15]) (by kernel_rfl) (by simp) ?_; refine AllReady.cons rfl (fun K hK => ?_) ?_; (focus ((go_simp); (first | (refine hK _ _ ?_; clear hK K) | (go_wp2_with ((go_at_call 49; (with_reducible refine Calls.mono HFF.out ?_); rintro e w3 ⟨b3, c3, rfl, hown3, hb3⟩; have HO3 := Lib.hid hown3; have hB3 := hq2.trans (hb3.mono hs2); clear hown3 hb3)); first | (show wpAny _ _ _ _ _ _ _ _; skip) | (refine hK _ _ ?_); (try clear hK K))); refine wpAny_ready (rs := [16]) (by kernel_rfl) (by simp) ?_; refine AllReady.cons rfl (fun K hK => ?_) ?_; (focus ((go_simp); (first | (refine hK _ _ ?_; clear hK K) | (go_wp2_with ((go_at_call 49; (with_reducible refine Calls.mono HFF.out ?_); rintro e w3 ⟨b3, c3, rfl, hown3, hb3⟩; have HO3 := Lib.hid hown3; have hB3 := hq2.trans (hb3.mono hs2); clear hown3 hb3)); first | (show wpAny _ _ _ _ _ _ _ _; skip) | (refine hK _ _ ?_); (try clear hK K))); refine wpAny_done (by kernel_rfl) ?_ _; (try dsimp only [Act.put, List.setIfInBounds_toArray, List.set_cons_succ, List.set_cons_zero]); go_wp2; go_ret2; exact ⟨b3, c3, rfl, owns_base HO3.out hs2, hB3⟩)); exact AllReady.nil)); exact AllReady.nil)); exact AllReady.nil)); refine AllReady.cons rfl (fun K hK => ?_) ?_; (focus ((go_simp); (first | (refine hK _ _ ?_; clear hK K) | (go_wp2_with ((go_at_call 49; (with_reducible refine Calls.mono HFF.out ?_); rintro e w3 ⟨b3, c3, rfl, hown3, hb3⟩; have HO3 := Lib.hid hown3; have hB3 := hq2.trans (hb3.mono hs2); clear hown3 hb3)); first | (show wpAny _ _ _ _ _ _ _ _; skip) | (refine hK _ _ ?_); (try clear hK K))); refine wpAny_ready (rs := [13]) (by kernel_rfl) (by simp) ?_; refine AllReady.cons rfl (fun K hK => ?_) ?_; (focus ((go_simp); (first | (refine hK _ _ ?_; clear hK K) | (go_wp2_with ((go_at_call 49; (with_reducible refine Calls.mono HFF.out ?_); rintro e w3 ⟨b3, c3, rfl, hown3, hb3⟩; have HO3 := Lib.hid hown3; have hB3 := hq2.trans (hb3.mono hs2); clear hown3 hb3)); first | (show wpAny _ _ _ _ _ _ _ _; skip) | (refine hK _ _ ?_); (try clear hK K))); refine wpAny_ready (rs := [15]) (by kernel_rfl) (by simp) ?_; refine AllReady.cons rfl (fun K hK => ?_) ?_; (focus ((go_simp); (first | (refine hK _ _ ?_; clear hK K) | (go_wp2_with ((go_at_call 49; (with_reducible refine Calls.mono HFF.out ?_); rintro e w3 ⟨b3, c3, rfl, hown3, hb3⟩; have HO3 := Lib.hid hown3; have hB3 := hq2.trans (hb3.mono hs2); clear hown3 hb3)); first | (show wpAny _ _ _ _ _ _ _ _; skip) | (refine hK _ _ ?_); (try clear hK K))); refine wpAny_ready (rs := [16]) (by kernel_rfl) (by simp) ?_; refine AllReady.cons rfl (fun K hK => ?_) ?_; (focus ((go_simp); (first | (refine hK _ _ ?_; clear hK K) | (go_wp2_with ((go_at_call 49; (with_reducible refine Calls.mono HFF.out ?_); rintro e w3 ⟨b3, c3, rfl, hown3, hb3⟩; have HO3 := Lib.hid hown3; have hB3 := hq2.trans (hb3.mono hs2); clear hown3 hb3)); first | (show wpAny _ _ _ _ _ _ _ _; skip) | (refine hK _ _ ?_); (try clear hK K))); refine wpAny_done (by kernel_rfl) ?_ _; (try dsimp only [Act.put, List.setIfInBounds_toArray, List.set_cons_succ, List.set_cons_zero]); go_wp2; go_ret2; exact ⟨b3, c3, rfl, owns_base HO3.out hs2, hB3⟩)); exact AllReady.nil)); exact AllReady.nil)); exact AllReady.nil)); exact AllReady.nil)); exact AllReady.nil
set_option maxHeartbeats 1000000 in
theorem KindOfU (from_ : Int) (L : List Nt) (nb : Option Addr) (nc : Nat) (w : World) : Calls Try.prog 48 #[.agg #[.int .i64 from_, .slice nb L.length nc]] w fun e w' => e = .returned (.int .i64 3) ∧ Below w.heap.size w w' := by
  go_enter Try.func48, Try.ntmps48
  go_wp2
  go_ret
  exact ⟨rfl, by (repeat' (first | (with_reducible exact Below.refl _ _) | (with_reducible assumption) | (show Below 0 _ _; with_reducible refine Below.mono (by assumption) (Nat.zero_le _)) | (with_reducible refine below_setRow ?_ ?_ _) | (with_reducible refine Below.alloc ?_ ?_ _) | (with_reducible refine Below.drew ?_) | (with_reducible refine Below.setCell ?_ ?_ _) | (with_reducible refine Below.frame ?_ _) | (with_reducible exact Nat.le_refl _) | omega | (simp only [World.size_alloc, World.size_setCell, World.size_drew, setRow_size]; omega) | (simp; omega) | (simp; done)))⟩
set_option maxHeartbeats 1000000 in
theorem SenderU (from_ : Int) (L : List Nt) (nb : Option Addr) (nc : Nat) (w : World) : Calls Try.prog 103 #[.agg #[.int .i64 from_, .slice nb L.length nc]] w fun e w' => e = .returned (.int .i64 from_) ∧ Below w.heap.size w w' := by
  go_enter Try.func103, Try.ntmps103
  go_wp2
  go_ret
  exact ⟨rfl, by (repeat' (first | (with_reducible exact Below.refl _ _) | (with_reducible assumption) | (show Below 0 _ _; with_reducible refine Below.mono (by assumption) (Nat.zero_le _)) | (with_reducible refine below_setRow ?_ ?_ _) | (with_reducible refine Below.alloc ?_ ?_ _) | (with_reducible refine Below.drew ?_) | (with_reducible refine Below.setCell ?_ ?_ _) | (with_reducible refine Below.frame ?_ _) | (with_reducible exact Nat.le_refl _) | omega | (simp only [World.size_alloc, World.size_setCell, World.size_drew, setRow_size]; omega) | (simp; omega) | (simp; done)))⟩
set_option maxRecDepth 100000 in
set_option maxHeartbeats 1000000 in
theorem NoticesU (from_ : Int) {L : List Nt} {nb : Option Addr} (nc : Nat) {w : World} (hl : LiesV (ntsV L) nb w) (hn : L.length ≤ 100000) : Calls Try.prog 102 #[.agg #[.int .i64 from_, .slice nb L.length nc]] w (newsPost w L) := by
  have HL := Lib.hid hl
  clear hl
  go_enter Try.func102, Try.ntmps102
  go_wp2_with (go_at_call 96; (with_reducible refine Calls.mono (NClone_v L nb nc _ (HL.out.below (by (repeat' (first | (with_reducible exact Below.refl _ _) | (with_reducible assumption) | (show Below 0 _ _; with_reducible refine Below.mono (by assumption) (Nat.zero_le _)) | (with_reducible refine below_setRow ?_ ?_ _) | (with_reducible refine Below.alloc ?_ ?_ _) | (with_reducible refine Below.drew ?_) | (with_reducible refine Below.setCell ?_ ?_ _) | (with_reducible refine Below.frame ?_ _) | (with_reducible exact Nat.le_refl _) | omega | (simp only [World.size_alloc, World.size_setCell, World.size_drew, setRow_size]; omega) | (simp; omega) | (simp; done))))) hn) ?_); rintro e w2 ⟨b2, c2, rfl, hown2, hb2⟩; have hq1 : w.heap.size ≤ (w.alloc (.cells #[.int .i64 from_, .slice nb L.length nc] 61)).heap.size := (by (try simp only [World.size_alloc, World.size_setCell, World.size_drew, setRow_size]); omega); have HO := Lib.hid (owns_base hown2 hq1); have hB : Below w.heap.size w w2 := Below.trans (by (repeat' (first | (with_reducible exact Below.refl _ _) | (with_reducible assumption) | (show Below 0 _ _; with_reducible refine Below.mono (by assumption) (Nat.zero_le _)) | (with_reducible refine below_setRow ?_ ?_ _) | (with_reducible refine Below.alloc ?_ ?_ _) | (with_reducible refine Below.drew ?_) | (with_reducible refine Below.setCell ?_ ?_ _) | (with_reducible refine Below.frame ?_ _) | (with_reducible exact Nat.le_refl _) | omega | (simp only [World.size_alloc, World.size_setCell, World.size_drew, setRow_size]; omega) | (simp; omega) | (simp; done)))) (hb2.mono (by (try simp only [World.size_alloc, World.size_setCell, World.size_drew, setRow_size]); omega)); clear hown2 hb2)
  go_ret
  exact ⟨b2, c2, rfl, HO.out, hB⟩
theorem form_bytesU {n from_ : Int} {L : List Nt} {nc : Nat} {nb : Option Addr} {w : World} {c : Int} {bs : List Int} (hc : noteE n 3 from_ 0 0#128 L = c) (hbs : bytesC n 3 from_ 0 0#128 L = bs) (hn : L.length ≤ 5000) (hl : LiesV (ntsV L) nb w) :
    Calls Try.prog 49 #[.agg #[.int .i64 n, .int .i64 3, .int .i64 from_, .int .i64 1, .int .u32 0, .int .u32 0, .int .u32 0, .int .u32 0, .slice nb L.length nc]] w (bytesPost w c bs) := by
  have h := form_bytes (nc := nc) (by decide) hc hbs hn hl
  rw [if_pos rfl, if_neg (by decide)] at h; simp only [Ear.wd_zero] at h
  exact h
set_option maxRecDepth 100000 in
set_option maxHeartbeats 4000000 in
theorem BytesU {n from_ : Int} {L : List Nt} {nb : Option Addr} {nc : Nat} {w : World} {c : Int} {bs : List Int} (hc : noteE n 3 from_ 0 0#128 L = c) (hbs : bytesC n 3 from_ 0 0#128 L = bs) (hn : L.length ≤ 5000) (hl : LiesV (ntsV L) nb w) : Calls Try.prog 101 #[.agg #[.int .i64 from_, .slice nb L.length nc], .int .i64 n] w (bytesPost w c bs) := by
  have HL := Lib.hid hl
  have HFB := Lib.hid (fun (W : World) (h : LiesV (ntsV L) nb W) => form_bytesU (nc := nc) hc hbs hn h)
  clear hl hc hbs
  go_enter Try.func101, Try.ntmps101
  go_wp2
  refine Ear.wp_world (Ear.Sh w.heap.size w [(w.heap.size, _, _)]) (.cons (by (repeat' (first | (show Ear.Blk _ _ _ _; with_reducible assumption) | (with_reducible exact Ear.Blk.new _ _ _) | (with_reducible refine Ear.Blk.new' ?_; (simp only [World.size_alloc, World.size_setCell, World.size_drew, setRow_size]; done)) | (with_reducible apply Ear.Blk.alloc) | (with_reducible apply Ear.Blk.drew) | (with_reducible apply Ear.Blk.setC) | (with_reducible apply Ear.Blk.setC' (e := by omega)) | (with_reducible apply Ear.Blk.rowC (e := by first | rfl | omega)) | (with_reducible apply Ear.Blk.otherRow) | (with_reducible apply Ear.Blk.other) | (show _ ≠ _; (try simp only [World.size_alloc, World.size_setCell, World.size_drew, setRow_size]); omega) | (show _ < _; (try simp only [World.size_alloc, World.size_setCell, World.size_drew, setRow_size]); omega)))) (.nil (by (repeat' (first | (with_reducible exact Below.refl _ _) | (with_reducible assumption) | (show Below 0 _ _; with_reducible refine Below.mono (by assumption) (Nat.zero_le _)) | (with_reducible refine below_setRow ?_ ?_ _) | (with_reducible refine Below.alloc ?_ ?_ _) | (with_reducible refine Below.drew ?_) | (with_reducible refine Below.setCell ?_ ?_ _) | (with_reducible refine Below.frame ?_ _) | (with_reducible exact Nat.le_refl _) | omega | (simp only [World.size_alloc, World.size_setCell, World.size_drew, setRow_size]; omega) | (simp; omega) | (simp; done)))))) ?_; (try clear hq_l); (try clear hq_c); (try clear hq_f); (try clear hq); (try clear hB hs); rintro w1 ⟨hq, hB⟩; replace hB : Below w.heap.size w w1 := hB; have hs := hB.size; (try simp only [List.set_cons_zero, List.set_cons_succ] at hq); have hq_l := hq.lt; have hq_c := hq.cell; have hq_f := hq.frozen
  refine Ear.Pl.C2.wp_region_qrb 8 #[true, true, true, true, true, true, true, true, false, false, false, false, false] (by kernel_rfl) (by kernel_rfl) (fun C hC1 hC2 => ?_); simp only [List.take_succ_cons, List.take_zero, List.drop_succ_cons, List.drop_zero]
  (iterate 2 (refine Ear.Pl.wpQ_run (by rfl) ?_; apply Exists.intro; refine ⟨fun K Q hK w' hw' => ?_, ?_⟩; (focus (obtain ⟨hc', hf'⟩ := Ear.bcell (hC1.out w' hw'); simp only [Act.put, List.setIfInBounds_toArray, List.set_cons_succ, List.set_cons_zero] at hK; go_wp2; exact hw')); simp only [Act.put, List.setIfInBounds_toArray, List.set_cons_succ, List.set_cons_zero]))
  refine Ear.Pl.wpQ_run (by rfl) ?_; apply Exists.intro; refine ⟨fun K Q hK w' hw' => ?_, ?_⟩; (focus (simp only [Act.put, List.setIfInBounds_toArray, List.set_cons_succ, List.set_cons_zero] at hK; go_wp2_with (refine (KindOfU _ _ _ _ _).mono ?_; rintro e w'' ⟨rfl, hb''⟩); exact hC2.out _ _ hw' hb'')); simp only [Act.put, List.setIfInBounds_toArray, List.set_cons_succ, List.set_cons_zero]
  (iterate 5 (refine Ear.Pl.wpQ_run (by rfl) ?_; apply Exists.intro; refine ⟨fun K Q hK w' hw' => ?_, ?_⟩; (focus (obtain ⟨hc', hf'⟩ := Ear.bcell (hC1.out w' hw'); simp only [Act.put, List.setIfInBounds_toArray, List.set_cons_succ, List.set_cons_zero] at hK; go_wp2; exact hw')); simp only [Act.put, List.setIfInBounds_toArray, List.set_cons_succ, List.set_cons_zero]))
  refine Ear.Pl.wpQ_nil ?_
  intro w2 hb2
  clear hC1 hC2
  have hq2 : Below w.heap.size w w2 := hB.trans ((((Below.refl _ w1).drew).trans hb2).mono hs)
  have hs2 := hq2.size
  have HL2 := Lib.hid (HL.out.below hq2)
  have HFF := Lib.hid (HFB.out w2 HL2.out)
  clear hb2 HFB
  refine wpAny_ready (rs := [8]) (by kernel_rfl) (by simp) ?_; refine AllReady.cons rfl (fun K hK => ?_) ?_; (focus ((go_simp); (first | (refine hK _ _ ?_; clear hK K) | (go_wp2_with ((go_at_call 49; (with_reducible refine Calls.mono HFF.out ?_); rintro e w3 ⟨b3, c3, rfl, hown3, hb3⟩; have HO3 := Lib.hid hown3; have hB3 := hq2.trans (hb3.mono hs2); clear hown3 hb3)); first | (show wpAny _ _ _ _ _ _ _ _; skip) | (refine hK _ _ ?_); (try clear hK K))); refine wpAny_ready (rs := [9,10]) (by kernel_rfl) (by simp) ?_; refine AllReady.cons rfl (fun K hK => ?_) ?_; (focus ((go_simp); (first | (refine hK _ _ ?_; clear hK K) | (go_wp2_with ((go_at_call 49; (with_reducible refine Calls.mono HFF.out ?_); rintro e w3 ⟨b3, c3, rfl, hown3, hb3⟩; have HO3 := Lib.hid hown3; have hB3 := hq2.trans (hb3.mono hs2); clear hown3 hb3)); first | (show wpAny _ _ _ _ _ _ _ _; skip) | (refine hK _ _ ?_); (try clear hK K))); refine wpAny_ready (rs := [10]) (by kernel_rfl) (by simp) ?_; refine AllReady.cons rfl (fun K hK => ?_) ?_; (focus ((go_simp); (first | (refine hK _ _ ?_; clear hK K) | (go_wp2_with ((go_at_call 49; (with_reducible refine Calls.mono HFF.out ?_); rintro e w3 ⟨b3, c3, rfl, hown3, hb3⟩; have HO3 := Lib.hid hown3; have hB3 := hq2.trans (hb3.mono hs2); clear hown3 hb3)); first | (show wpAny _ _ _ _ _ _ _ _; skip) | (refine hK _ _ ?_); (try clear hK K))); refine wpAny_ready (rs := [11]) (by kernel_rfl) (by simp) ?_; refine AllReady.cons rfl (fun K hK => ?_) ?_; (focus ((go_simp); (first | (refine hK _ _ ?_; clear hK K) | (go_wp2_with ((go_at_call 49; (with_reducible refine Calls.mono HFF.out ?_); rintro e w3 ⟨b3, c3, rfl, hown3, hb3⟩; have HO3 := Lib.hid hown3; have hB3 := hq2.trans (hb3.mono hs2); clear hown3 hb3)); first | (show wpAny _ _ _ _ _ _ _ _; skip) | (refine hK _ _ ?_); (try clear hK K))); refine wpAny_ready (rs := [12]) (by kernel_rfl) (by simp) ?_; refine AllReady.cons rfl (fun K hK => ?_) ?_; (focus ((go_simp); (first | (refine hK _ _ ?_; clear hK K) | (go_wp2_with ((go_at_call 49; (with_reducible refine Calls.mono HFF.out ?_); rintro e w3 ⟨b3, c3, rfl, hown3, hb3⟩; have HO3 := Lib.hid hown3; have hB3 := hq2.trans (hb3.mono hs2); clear hown3 hb3)); first | (show wpAny _ _ _ _ _ _ _ _; skip) | (refine hK _ _ ?_); (try clear hK K))); refine wpAny_done (by kernel_rfl) ?_ _; (try dsimp only [Act.put, List.setIfInBounds_toArray, List.set_cons_succ, List.set_cons_zero]); go_wp2; go_ret2; exact ⟨b3, c3, rfl, owns_base HO3.out hs2, hB3⟩)); exact AllReady.nil)); exact AllReady.nil)); exact AllReady.nil)); refine AllReady.cons rfl (fun K hK => ?_) ?_; (focus ((go_simp); (first | (refine hK _ _ ?_; clear hK K) | (go_wp2_with ((go_at_call 49; (with_reducible refine Calls.mono HFF.out ?_); rintro e w3 ⟨b3, c3, rfl, hown3, hb3⟩; have HO3 := Lib.hid hown3; have hB3 := hq2.trans (hb3.mono hs2); clear hown3 hb3)); first | (show wpAny _ _ _ _ _ _ _ _; skip) | (refine hK _ _ ?_); (try clear hK K))); refine wpAny_ready (rs := [9]) (by kernel_rfl) (by simp) ?_; refine AllReady.cons rfl (fun K hK => ?_) ?_; (focus ((go_simp); (first | (refine hK _ _ ?_; clear hK K) | (go_wp2_with ((go_at_call 49; (with_reducible refine Calls.mono HFF.out ?_); rintro e w3 ⟨b3, c3, rfl, hown3, hb3⟩; have HO3 := Lib.hid hown3; have hB3 := hq2.trans (hb3.mono hs2); clear hown3 hb3)); first | (show wpAny _ _ _ _ _ _ _ _; skip) | (refine hK _ _ ?_); (try clear hK K))); refine wpAny_ready (rs := [11]) (by kernel_rfl) (by simp) ?_; refine AllReady.cons rfl (fun K hK => ?_) ?_; (focus ((go_simp); (first | (refine hK _ _ ?_; clear hK K) | (go_wp2_with ((go_at_call 49; (with_reducible refine Calls.mono HFF.out ?_); rintro e w3 ⟨b3, c3, rfl, hown3, hb3⟩; have HO3 := Lib.hid hown3; have hB3 := hq2.trans (hb3.mono hs2); clear hown3 hb3)); first | (show wpAny _ _ _ _ _ _ _ _; skip) | (refine hK _ _ ?_); (try clear hK K))); refine wpAny_ready (rs := [12]) (by kernel_rfl) (by simp) ?_; refine AllReady.cons rfl (fun K hK => ?_) ?_; (focus ((go_simp); (first | (refine hK _ _ ?_; clear hK K) | (go_wp2_with ((go_at_call 49; (with_reducible refine Calls.mono HFF.out ?_); rintro e w3 ⟨b3, c3, rfl, hown3, hb3⟩; have HO3 := Lib.hid hown3; have hB3 := hq2.trans (hb3.mono hs2); clear hown3 hb3)); first | (show wpAny _ _ _ _ _ _ _ _; skip) | (refine hK _ _ ?_); (try clear hK K))); refine wpAny_done (by kernel_rfl) ?_ _; (try dsimp only [Act.put, List.setIfInBounds_toArray, List.set_cons_succ, List.set_cons_zero]); go_wp2; go_ret2; exact ⟨b3, c3, rfl, owns_base HO3.out hs2, hB3⟩)); exact AllReady.nil)); exact AllReady.nil)); exact AllReady.nil)); exact AllReady.nil)); exact AllReady.nil
end Go.Proofs.Ytklfkfnckdeifaa
