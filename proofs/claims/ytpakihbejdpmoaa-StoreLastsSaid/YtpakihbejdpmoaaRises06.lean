/-
  A directory is rising: its names sorted are its names.
-/
import Derived.Test.YtpakihbejdpmoaaNames06
namespace Go.Proofs.Ytpakihbejdpmoaa
open Go.RowKit Go.Maps Go.Sort Go.Shelf
set_option linter.unusedVariables false

theorem dir_rises {w : World} {b : Nat} {l : Dir} (h : OwnsDir w b l) : l.Pairwise fun x y => bytesBefore x.1 y.1 = true := by
  obtain ⟨es, clock, _, F, _, hD⟩ := h
  unfold dirD at hD
  injection hD with hD
  have K := string_keyed Try.underlying9
  have hs := Maps.sorted_sorted K.one _ (fun p hp => fit_keys F p hp) (Maps.fit_apart K F)
  rw [← hD, List.pairwise_map] at hs
  exact hs.imp fun h => h
theorem before_le {x y : List UInt8} (h : bytesBefore x y = true) : x ≤ y := by
  induction x generalizing y with
  | nil => exact List.nil_le _
  | cons a r ih =>
    cases y with
    | nil => simp [bytesBefore] at h
    | cons b s =>
      simp only [bytesBefore, Bool.or_eq_true, Bool.and_eq_true, decide_eq_true_eq, beq_iff_eq] at h
      rw [List.cons_le_cons_iff]
      rcases h with h | ⟨h1, h2⟩
      · exact .inl h
      · exact .inr ⟨h1, ih h2⟩
/-- The names of a directory, sorted. -/
theorem names_sorted {w : World} {b : Nat} {l : Dir} (h : OwnsDir w b l) {ss : List (List UInt8)} (hp : ss.Perm (strKeys (dirD l))) : ss.mergeSort (fun x y => decide (x ≤ y)) = l.map (·.1) := by
  have e : strKeys (dirD l) = l.map (·.1) := by
    unfold strKeys dirD
    simp [enD, Go.strOf]
  rw [e] at hp
  rw [mergeSort_of_perm hp]
  refine List.mergeSort_of_pairwise ?_
  rw [List.pairwise_map]
  exact (dir_rises h).imp fun h => by simpa using before_le h
end Go.Proofs.Ytpakihbejdpmoaa
