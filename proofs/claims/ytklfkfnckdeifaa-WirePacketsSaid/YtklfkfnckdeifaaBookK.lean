/-
  What Merge of a book comes to.
  What Merge of a book comes to, whole.
  What alive and the law BookOrder come to.
-/
import Derived.Test.YtklfkfnckdeifaaBookH
import Derived.Laws.EntriesVeiled
section
namespace Go.Proofs.Ytklfkfnckdeifaa
set_option linter.unusedSimpArgs false
set_option linter.unusedVariables false
open Go.RowKit
attribute [local irreducible] Ear.wd Ear.one Ear.clean withV withE hasV
def chg1 (L : List Nt) (s : BitVec 128) (x : Nt) : BitVec 128 := if takeB L x = true then withV s x.of_ else s
theorem chg_snoc (L l : List Nt) (x : Nt) (s : BitVec 128) : chg L (l ++ [x]) s = chg1 (takesN L l) (chg L l s) x := by
  induction l generalizing L s with
  | nil => rfl
  | cons a l ih =>
    rw [List.cons_append]
    simp only [chg]
    rw [ih]
    rfl
end Go.Proofs.Ytklfkfnckdeifaa
end
section
namespace Go.Proofs.Ytklfkfnckdeifaa
set_option linter.unusedSimpArgs false
set_option linter.unusedVariables false
open Go.RowKit
theorem nts_getK {L : List Nt} {base : Option Addr} {w w' : World} {g : Nat} (k : Nat) (hk : k < L.length) (hL : LiesV (ntsV L) base w) (hK : Ear.Keep (fun k => k = g) w w') (hne : ∀ B o, base = some ⟨B, o, none⟩ → B ≠ g) :
    ∃ B o, base = some ⟨B, o, none⟩ ∧ B < w'.heap.size ∧ w'.cell? ⟨B, o + k * 3, none⟩ = some (.int .i64 L[k].of_) ∧ w'.cell? ⟨B, o + k * 3 + 1, none⟩ = some (.int .i64 L[k].tag) ∧ w'.cell? ⟨B, o + k * 3 + 2, none⟩ = some (.int .i64 L[k].kind) := by
  have hlen := ntsV_len L
  obtain ⟨B, o, rfl, hBl, -⟩ := hL (k * 3) (by omega)
  have hB := hne B o rfl
  have key : ∀ j, j < 3 → w'.cell? ⟨B, o + (k * 3 + j), none⟩ = (ntV L[k])[j]? := fun j hj => by
    obtain ⟨B', o', he, hB', hc⟩ := hL (k * 3 + j) (by omega)
    simp only [Option.some.injEq, Addr.mk.injEq] at he
    obtain ⟨rfl, rfl, -⟩ := he
    rw [← ntsV_get L k j hk hj, ← hc]
    exact World.cell?_of_block (hK.block B hB' hB)
  exact ⟨B, o, rfl, Nat.lt_of_lt_of_le hBl hK.size, key 0 (by omega), key 1 (by omega), key 2 (by omega)⟩
theorem all_false {n : Nat} {l : List Nt} (h : mergeOk n l = false) (hall : ∀ j (hj : j < l.length), validN n l[j] = true) : False := by
  unfold mergeOk at h
  rw [List.all_eq_false] at h
  obtain ⟨x, hx, hv⟩ := h
  obtain ⟨j, hj, rfl⟩ := List.getElem_of_mem hx
  exact hv (hall j hj)
theorem all_true {n : Nat} {l : List Nt} (h : mergeOk n l = true) (j : Nat) (hj : j < l.length) : validN n l[j] = true := by
  unfold mergeOk at h
  exact List.all_eq_true.1 h _ (List.getElem_mem hj)
theorem zeroW : (.agg #[.int .u32 (Ear.wd (0#128) 0), .int .u32 (Ear.wd (0#128) 1), .int .u32 (Ear.wd (0#128) 2), .int .u32 (Ear.wd (0#128) 3)] : Value) = .agg #[.int .u32 0, .int .u32 0, .int .u32 0, .int .u32 0] := by simp only [Ear.wd_zero]
theorem zeroWL : ([.int .u32 (Ear.wd (0#128) 0), .int .u32 (Ear.wd (0#128) 1), .int .u32 (Ear.wd (0#128) 2), .int .u32 (Ear.wd (0#128) 3)] : List Value) = [.int .u32 0, .int .u32 0, .int .u32 0, .int .u32 0] := by simp only [Ear.wd_zero]
attribute [local irreducible] Ear.wd Ear.one Ear.clean withV withE hasV chg chg1 takesN takeN mergeOk validN
end Go.Proofs.Ytklfkfnckdeifaa
end
section
namespace Go.Proofs.Ytklfkfnckdeifaa
set_option linter.unusedSimpArgs false
set_option linter.unusedVariables false
open Go.RowKit
theorem new3 : newB 3 1 4 = [⟨0, 0, 1⟩, ⟨1, 4, 1⟩, ⟨2, 0, 1⟩] := rfl
theorem new3_ok : newErr 3 1 4 = 0 := by decide
theorem takesN_one (L : List Nt) (x : Nt) : takesN L [x] = takeN L x := rfl
end Go.Proofs.Ytklfkfnckdeifaa
end
