/-
  The reference's IsDay, Is.
-/
import Derived.Test.YtibanikfalfmcaaRevC
namespace Go.Proofs.Ytibanikfalfmcaa
open Go.RowKit
set_option linter.unusedVariables false

set_option maxRecDepth 100000 in
set_option maxHeartbeats 2000000 in
theorem isDay_any (n : Int) (w : World) : Calls Try.prog 52 #[.int .i64 n] w fun e w' => e = .returned (.bool (dayOk n)) ∧ w = w' := by
  go_enter Try.func52, Try.ntmps52
  by_cases h1 : 0 ≤ n
  · by_cases h2 : n ≤ 3652058
    · have hd : dayOk n = true := by simp [dayOk, h1, h2]
      rw [hd]
      go_wp2
      go_ret
      exact ⟨rfl, rfl⟩
    · have hd : dayOk n = false := by simp [dayOk, h2]
      rw [hd]
      go_wp2
      go_ret
      exact ⟨rfl, rfl⟩
  · have hd : dayOk n = false := by simp [dayOk, h1]
    rw [hd]
    go_wp2
    go_ret
    exact ⟨rfl, rfl⟩

set_option maxRecDepth 100000 in
set_option maxHeartbeats 2000000 in
theorem isAmt_any (n : Int) (w : World) : Calls Try.prog 79 #[.int .i64 n] w fun e w' => e = .returned (.bool (amt n)) ∧ w = w' := by
  go_enter Try.func79, Try.ntmps79
  by_cases h1 : -4611686018427387904 ≤ n
  · by_cases h2 : n ≤ 4611686018427387904
    · have hd : amt n = true := (amt_iff n).2 ⟨h1, h2⟩
      rw [hd]
      go_wp2
      go_ret
      exact ⟨rfl, rfl⟩
    · have hd : amt n = false := (amt_no n).2 (.inr (by omega))
      rw [hd]
      go_wp2
      go_ret
      exact ⟨rfl, rfl⟩
  · have hd : amt n = false := (amt_no n).2 (.inl (by omega))
    rw [hd]
    go_wp2
    go_ret
    exact ⟨rfl, rfl⟩
end Go.Proofs.Ytibanikfalfmcaa
