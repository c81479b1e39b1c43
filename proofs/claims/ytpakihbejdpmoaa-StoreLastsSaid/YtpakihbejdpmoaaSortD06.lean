/-
  maps.Keys, slices.Sorted at a directory, as calls of a plain walk.
-/
import Derived.Test.YtpakihbejdpmoaaRises06
namespace Go.Proofs.Ytpakihbejdpmoaa
open Go.RowKit Go.Maps Go.Sort Go.Shelf
set_option linter.unusedVariables false

theorem keysD_any (mb : Option Nat) (W : World) : Calls Try.prog 50 #[.map mb] W fun e w' => e = .returned (.func (.func 61) #[] #[.pointer (some ⟨W.heap.size, 0, none⟩)]) ∧ w' = W.alloc (.cells #[.map mb] 55) :=
  callsIn_wide.1 (keysD_in mb W)
/-- The names, as a row. -/
def NamesR (w : World) (l : Dir) (e : Ending) (w' : World) : Prop := ∃ A c, e = .returned (.slice A l.length c) ∧ w'.ownsRow w.heap.size 9 1 (.slice A l.length c) l.length ((l.map (·.1)).map encStr) ∧ Below w.heap.size w w'
theorem sortedD_any (b : Nat) (l : Dir) (w : World) (h : OwnsDir w b l) (hl : l.length ≤ 1000000000) :
    Calls Try.prog 49 #[.func (.func 61) #[] #[.pointer (some ⟨w.heap.size, 0, none⟩)]] (w.alloc (.cells #[.map (some b)] 55)) (NamesR w l) := by
  refine (callsIn_wide.1 (sortedD_in b l.length (dirD l) ptrR w h (by rw [dirD_size]; unfold maxLen; omega) (by rw [dirD_size]; omega))).mono ?_
  rintro e w' ⟨v, ss, rfl, hp, hrow, _, hb⟩
  have hs := names_sorted h hp
  have hlen : ss.length = l.length := by
    have := congrArg List.length hs
    rw [List.length_mergeSort, List.length_map] at this
    exact this
  rw [hs, hlen] at hrow
  obtain ⟨A, c, rfl, _, _⟩ := own_shape hrow
  exact ⟨A, c, rfl, ownsRow_base_a hrow (by simp), ((Below.refl _ w).alloc (Nat.le_refl _) _).trans (hb.mono (by simp))⟩
end Go.Proofs.Ytpakihbejdpmoaa
