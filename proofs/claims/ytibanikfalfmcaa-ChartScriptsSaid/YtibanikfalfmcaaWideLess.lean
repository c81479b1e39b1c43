/-
  The reference's wide numbers: which is less.
-/
import Derived.Test.YtibanikfalfmcaaWide
namespace Go.Proofs.Ytibanikfalfmcaa
open Go.RowKit
set_option linter.unusedVariables false

set_option maxRecDepth 100000 in
set_option maxHeartbeats 4000000 in
theorem less_raw (a0 a1 a2 a3 b0 b1 b2 b3 : Int) (B : Bool) (h3 : a3 ≠ b3 → B = decide (a3 < b3)) (h2 : a3 = b3 → a2 ≠ b2 → B = decide (a2 < b2)) (h1 : a3 = b3 → a2 = b2 → a1 ≠ b1 → B = decide (a1 < b1)) (h0 : a3 = b3 → a2 = b2 → a1 = b1 → B = decide (a0 < b0)) (w : World) :
    Calls Try.prog 54 #[.agg #[.int .u64 a0, .int .u64 a1, .int .u64 a2, .int .u64 a3], .agg #[.int .u64 b0, .int .u64 b1, .int .u64 b2, .int .u64 b3]] w fun e w' => e = .returned (.bool B) ∧ Below w.heap.size w w' := by
  by_cases c3 : a3 = b3
  case neg =>
    have HB := hide (h3 c3)
    have n3 : (a3 != b3) = true := by simpa using c3
    clear h0 h1 h2 h3 c3
    go_enter Try.func54, Try.ntmps54
    go_wp2
    refine wp_loop_rounds 1 ?_
    rw [rounds_succ]
    go_wp2
    go_quiet (fail)
    go_wp2
    go_quiet (fail)
    go_wp2
    go_ret
    exact ⟨by have hb := HB.out; subst hb; rfl, (by repeat' (first | (with_reducible exact Below.refl _ _) | (with_reducible refine below_drewM ?_ _) | (with_reducible refine Below.drew ?_) | (with_reducible refine Below.setCell ?_ ?_ _) | (with_reducible refine Below.alloc ?_ ?_ _) | omega | (simp; done) | (simp; omega)))⟩
  subst c3
  by_cases c2 : a2 = b2
  case neg =>
    have HB := hide (h2 rfl c2)
    have n2 : (a2 != b2) = true := by simpa using c2
    clear h0 h1 h2 h3 c2
    go_enter Try.func54, Try.ntmps54
    go_wp2
    refine wp_loop_rounds 2 ?_
    rw [rounds_succ]
    go_wp2
    go_quiet (fail)
    go_wp2
    rw [rounds_succ]
    go_wp2
    go_quiet (fail)
    go_wp2
    go_quiet (fail)
    go_wp2
    go_ret
    exact ⟨by have hb := HB.out; subst hb; rfl, (by repeat' (first | (with_reducible exact Below.refl _ _) | (with_reducible refine below_drewM ?_ _) | (with_reducible refine Below.drew ?_) | (with_reducible refine Below.setCell ?_ ?_ _) | (with_reducible refine Below.alloc ?_ ?_ _) | omega | (simp; done) | (simp; omega)))⟩
  subst c2
  by_cases c1 : a1 = b1
  case neg =>
    have HB := hide (h1 rfl rfl c1)
    have n1 : (a1 != b1) = true := by simpa using c1
    clear h0 h1 h2 h3 c1
    go_enter Try.func54, Try.ntmps54
    go_wp2
    refine wp_loop_rounds 3 ?_
    rw [rounds_succ]
    go_wp2
    go_quiet (fail)
    go_wp2
    rw [rounds_succ]
    go_wp2
    go_quiet (fail)
    go_wp2
    rw [rounds_succ]
    go_wp2
    go_quiet (fail)
    go_wp2
    go_quiet (fail)
    go_wp2
    go_ret
    exact ⟨by have hb := HB.out; subst hb; rfl, (by repeat' (first | (with_reducible exact Below.refl _ _) | (with_reducible refine below_drewM ?_ _) | (with_reducible refine Below.drew ?_) | (with_reducible refine Below.setCell ?_ ?_ _) | (with_reducible refine Below.alloc ?_ ?_ _) | omega | (simp; done) | (simp; omega)))⟩
  subst c1
  by_cases c0 : a0 = b0
  case neg =>
    have HB := hide (h0 rfl rfl rfl)
    have n0 : (a0 != b0) = true := by simpa using c0
    clear h0 h1 h2 h3 c0
    go_enter Try.func54, Try.ntmps54
    go_wp2
    refine wp_loop_rounds 4 ?_
    rw [rounds_succ]
    go_wp2
    go_quiet (fail)
    go_wp2
    rw [rounds_succ]
    go_wp2
    go_quiet (fail)
    go_wp2
    rw [rounds_succ]
    go_wp2
    go_quiet (fail)
    go_wp2
    rw [rounds_succ]
    go_wp2
    go_quiet (fail)
    go_wp2
    go_quiet (fail)
    go_wp2
    go_ret
    exact ⟨by have hb := HB.out; subst hb; rfl, (by repeat' (first | (with_reducible exact Below.refl _ _) | (with_reducible refine below_drewM ?_ _) | (with_reducible refine Below.drew ?_) | (with_reducible refine Below.setCell ?_ ?_ _) | (with_reducible refine Below.alloc ?_ ?_ _) | omega | (simp; done) | (simp; omega)))⟩
  subst c0
  have HB : Hid (B = false) := by show _ = _; rw [h0 rfl rfl rfl]; simp
  clear h0 h1 h2 h3
  go_enter Try.func54, Try.ntmps54
  go_wp2
  refine wp_loop_rounds 5 ?_
  rw [rounds_succ]
  go_wp2
  go_quiet (fail)
  go_wp2
  rw [rounds_succ]
  go_wp2
  go_quiet (fail)
  go_wp2
  rw [rounds_succ]
  go_wp2
  go_quiet (fail)
  go_wp2
  rw [rounds_succ]
  go_wp2
  go_quiet (fail)
  go_wp2
  rw [rounds_succ]
  go_wp2
  go_ret
  exact ⟨by have hb := HB.out; subst hb; rfl, (by repeat' (first | (with_reducible exact Below.refl _ _) | (with_reducible refine below_drewM ?_ _) | (with_reducible refine Below.drew ?_) | (with_reducible refine Below.setCell ?_ ?_ _) | (with_reducible refine Below.alloc ?_ ?_ _) | omega | (simp; done) | (simp; omega)))⟩

theorem less_any (x y : Int) (hx : Fit x) (hy : Fit y) (w : World) :
    Calls Try.prog 54 #[arrV x, arrV y] w fun e w' => e = .returned (.bool (decide (x < y))) ∧ Below w.heap.size w w' := by
  obtain ⟨a0, a1, a2, a3⟩ := dg_in x
  obtain ⟨b0, b1, b2, b3⟩ := dg_in y
  obtain ⟨z0, z1, z2, z3⟩ := less_dg (dg_sum hx) (dg_sum hy) a0 a1 a2 a3 b0 b1 b2 b3
  exact less_raw _ _ _ _ _ _ _ _ _ (fun h => decide_eq_decide.2 (z0 h)) (fun h h' => decide_eq_decide.2 (z1 h h')) (fun h h' h'' => decide_eq_decide.2 (z2 h h' h'')) (fun h h' h'' => decide_eq_decide.2 (z3 h h' h'')) w

end Go.Proofs.Ytibanikfalfmcaa
