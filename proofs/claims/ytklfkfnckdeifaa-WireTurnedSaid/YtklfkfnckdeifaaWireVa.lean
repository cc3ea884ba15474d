/-
  Decode of a note's bytes is the note.
-/
import Derived.Test.YtklfkfnckdeifaaWireU
import Derived.Test.YtklfkfnckdeifaaWireLa
namespace Go.Proofs.Ytklfkfnckdeifaa
set_option linter.unusedSimpArgs false
set_option linter.unusedVariables false
open Go.RowKit
attribute [local irreducible] Ear.Pl.wpQ Ear.Pa.wpQ Ear.Fe.wpQ Ear.Fa.wpQ sumP sumV digit putL setL by8 orL Ear.wd Ear.one Ear.clean riseFrom validN withinW newsL noteL bodyL bytesOf noteE bytesC numK heardK newsK ntK manyK atK bytesN decodeC newsD
theorem owns_cap {w : World} {b e s n cap : Nat} {base : Option Addr} {xs : List Value} (h : w.ownsRow b e s (.slice base n cap) n xs) : n ≤ cap := by
  obtain ⟨-, ⟨h1, rfl⟩ | ⟨g, cap', cur, hv, -, -, h3, -⟩⟩ := h
  · exact Nat.zero_le _
  · injection hv with _ _ h4; rw [h4]; exact h3
theorem Same_z (k f r : Int) (L : List Nt) (b1 b2 : Option Addr) (c1 c2 : Nat) (w : World) (hn : L.length ≤ 5000) (h1 : LiesV (ntsV L) b1 w) (h2 : LiesV (ntsV L) b2 w) :
    Calls Try.prog 27 #[.agg #[.int .i64 k, .int .i64 f, .int .i64 r, .int .u32 0, .int .u32 0, .int .u32 0, .int .u32 0, .slice b1 L.length c1], .agg #[.int .i64 k, .int .i64 f, .int .i64 r, .int .u32 0, .int .u32 0, .int .u32 0, .int .u32 0, .slice b2 L.length c2]] w fun e w' => e = .returned (.bool true) ∧ Below w.heap.size w w' := by
  have h := Same_eq k f r 0#128 L b1 b2 c1 c2 w hn h1 h2
  simp only [Ear.wd_zero] at h
  exact h
theorem bytes_len {n kind from_ round : Int} {heard : BitVec 128} {L : List Nt} (h : noteE n kind from_ round heard L = 0) : (bytesOf n kind from_ round heard L).length ≤ 1024 := by
  obtain ⟨h1, h2, -, -, -, -, h7⟩ := note_okE h
  obtain ⟨-, hL⟩ := rise_each L (-1) h7
  unfold bytesOf bodyL foreL
  rw [List.length_append, List.length_append, List.length_append, putL_len, putL_len, newsL_len]
  have : (lineL n kind from_ round heard).length ≤ 5 + 5 + 14 := by
    unfold lineL headL
    split
    · simp
    · split <;> simp [putL_len, setL_len] <;> omega
  omega
/-- All that is known of the bytes of a note. -/
structure BackD (bs : List Int) (n kind from_ round : Int) (heard : BitVec 128) (L : List Nt) : Prop where
  bk : Back bs n kind from_ round heard L
  byt : byteOk bs
  len : bs.length ≤ 1024
  dec : decodeC bs n = 0
  nws : newsD bs n = L
theorem backD {n kind from_ round : Int} {heard : BitVec 128} {L : List Nt} {bs : List Int} (hk : kind = 1 ∨ kind = 2 ∨ kind = 3) (h : noteE n kind from_ round heard L = 0) (hbs : bytesC n kind from_ round heard L = bs) : BackD bs n kind from_ round heard L := by
  rw [bytesC_good h] at hbs
  subst hbs
  have hb := back hk h
  obtain ⟨h1, h2, -⟩ := note_okE h
  have hl := bytes_len h
  refine ⟨hb, byteOk_bytes hk h, hl, ok_decode ⟨h1, h2⟩ hl hb.ok, ?_⟩
  unfold newsD
  rw [hb.m_, hb.n_]
end Go.Proofs.Ytklfkfnckdeifaa
