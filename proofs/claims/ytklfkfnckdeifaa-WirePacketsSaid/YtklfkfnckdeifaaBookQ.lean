/-
  What List and Twin of a book come to.
-/
import Derived.Test.YtklfkfnckdeifaaBookK
import Derived.Test.YtklfkfnckdeifaaBookC
section
namespace Go.Proofs.Ytklfkfnckdeifaa
set_option linter.unusedSimpArgs false
set_option linter.unusedVariables false
open Go.RowKit
theorem eqNilNt (a : Addr) (n c : Nat) (W : World) : Sem.run Try.prog (binOp BinOp.eql 31 (.slice (some a) n c) (.slice none 0 0)) W = .ok (.bool false) W := by kernel_rfl
attribute [local go_sem] eqNilNt
theorem ntsV_one (l : List Nt) : ∀ u ∈ ntsV l, u.oneCell' = true := by
  intro u hu
  unfold ntsV at hu
  obtain ⟨x, _, hv⟩ := List.mem_flatMap.1 hu
  simp [ntV] at hv
  rcases hv with rfl | rfl | rfl <;> rfl
set_option maxRecDepth 100000 in
set_option maxHeartbeats 1000000 in
theorem NClone_calls (L : List Nt) (g cap lo : Nat) (w : World) (h : w.ownsRow lo 84 3 (.slice (some ⟨g, 0, none⟩) L.length cap) L.length (ntsV L)) (hn : L.length ≤ 100000) (hp : 0 < L.length) :
    Calls Try.prog 96 #[.slice (some ⟨g, 0, none⟩) L.length cap] w fun e w' =>
      ∃ g' cap', e = .returned (.slice (some ⟨g', 0, none⟩) L.length cap') ∧ w'.ownsRow w.heap.size 84 3 (.slice (some ⟨g', 0, none⟩) L.length cap') L.length (ntsV L) ∧ Below w.heap.size w w' := by
  obtain ⟨i0, hi, hz0, hz1, hz2⟩ := info_parts info_nt
  have HI := Lib.hid hi
  have HZ0 := Lib.hid hz0
  have HZ1 := Lib.hid hz1
  have HZ2 := Lib.hid hz2
  have HLIE := Lib.hid (owns_liesV h)
  have HGL := Lib.hid (h.lt g rfl).2
  have HLL := Lib.hid (ntsV_len L)
  clear hi hz0 hz1 hz2 h
  go_enter Try.func96, Try.ntmps96
  go_wp2_with (at_builtin; refine wpList_append_own _ rfl _ _ 31 rfl w.heap.size 84 i0 _ 3 24 Try.underlying31 HI.out HZ0.out HZ1.out HZ2.out rfl (by decide) _ 0 [] rfl (World.ownsRow_made w #[] 0 (Nat.le_refl _) (by simp) rfl) ⟨g, 0, none⟩ L.length cap (ntsV L) rfl HLL.out ?c1 (ntsV_one L) ?c3 ?c4 ?c5 ?_)
  case c1 =>
    intro j u hj
    have hjl : j < (ntsV L).length := (List.getElem?_eq_some_iff.1 hj).1
    obtain ⟨B, o, he, hBl, hcell⟩ := HLIE.out j hjl
    simp only [Option.some.injEq, Addr.mk.injEq] at he
    obtain ⟨rfl, rfl, -⟩ := he
    have hadd : (⟨g, 0, none⟩ : Addr).add j = ⟨g, 0 + j, none⟩ := by unfold Addr.add; by_cases h : j = 0 <;> simp [h]
    rw [hadd, ← hj, ← hcell]
    exact World.cell?_of_block (Below.heap_alloc w _ g HGL.out)
  case c3 => unfold maxLen; omega
  case c4 => omega
  case c5 => first | omega | (simp; done) | (simp; omega)
  intro v' w3 hown' hgrow _
  obtain ⟨base', cap', rfl⟩ := owns_slice hown'
  have hpos : 0 + L.length ≠ 0 := by omega
  obtain ⟨g', rfl⟩ : ∃ g', base' = some ⟨g', 0, none⟩ := by
    obtain ⟨-, ⟨hv, h0⟩ | ⟨g', c', cur, hv, -⟩⟩ := hown'
    · exact absurd h0 (by omega)
    · simp only [Value.slice.injEq] at hv
      exact ⟨g', hv.1⟩
  have HO := Lib.hid hown'
  have hB3 : Below w.heap.size w w3 := ((Below.refl _ w).alloc (Nat.le_refl _) _).grown hgrow (by simp) (fun j hj => by simp [Value.ownBlock] at hj; omega)
  clear hown' hgrow
  go_wp2
  go_ret
  exact ⟨g', cap', rfl, by simpa using HO.out, hB3⟩
end Go.Proofs.Ytklfkfnckdeifaa
end
