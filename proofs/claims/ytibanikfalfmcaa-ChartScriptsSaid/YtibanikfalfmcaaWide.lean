/-
  The reference's wide numbers: sums, differences, comparisons: what they compute.
-/
import Derived.Test.YtibanikfalfmcaaWideMath
import Derived.BigQuiet
import Derived.Deep.QuietTactic
import Derived.WalkLawsBesides
namespace Go.Proofs.Ytibanikfalfmcaa
open Go.RowKit
set_option linter.unusedVariables false

theorem below_drewM {B : Nat} {a w : World} (h : Below B a w) (n : Nat) : Below B a (w.drewN n) := ⟨h.os, h.tape, h.output, h.size, h.block⟩
/-- A size's digits as a value, a wide number. -/
def arrV (x : Int) : Value := .agg #[.int .u64 (dg0 x), .int .u64 (dg1 x), .int .u64 (dg2 x), .int .u64 (dg3 x)]
def wideV (n : Bool) (x : Int) : Value := .agg #[.bool n, .int .u64 (dg0 x), .int .u64 (dg1 x), .int .u64 (dg2 x), .int .u64 (dg3 x)]

set_option maxRecDepth 100000 in
set_option maxHeartbeats 4000000 in
theorem plus_raw (a0 a1 a2 a3 b0 b1 b2 b3 : Int) (ha0 : In a0) (ha1 : In a1) (ha2 : In a2) (ha3 : In a3) (hb0 : In b0) (hb1 : In b1) (hb2 : In b2) (hb3 : In b3) (w : World) :
    Calls Try.prog 53 #[.agg #[.int .u64 a0, .int .u64 a1, .int .u64 a2, .int .u64 a3], .agg #[.int .u64 b0, .int .u64 b1, .int .u64 b2, .int .u64 b3]] w fun e w' =>
      e = .returned (.agg #[.int .u64 ((a0 + b0) % 4294967296), .int .u64 ((a1 + b1 + (a0 + b0) / 4294967296) % 4294967296), .int .u64 ((a2 + b2 + (a1 + b1 + (a0 + b0) / 4294967296) / 4294967296) % 4294967296), .int .u64 ((a3 + b3 + (a2 + b2 + (a1 + b1 + (a0 + b0) / 4294967296) / 4294967296) / 4294967296) % 4294967296)]) ∧ Below w.heap.size w w' := by
  obtain ⟨p0, q0⟩ := ha0
  obtain ⟨p1, q1⟩ := ha1
  obtain ⟨p2, q2⟩ := ha2
  obtain ⟨p3, q3⟩ := ha3
  obtain ⟨r0, s0⟩ := hb0
  obtain ⟨r1, s1⟩ := hb1
  obtain ⟨r2, s2⟩ := hb2
  obtain ⟨r3, s3⟩ := hb3
  go_enter Try.func53, Try.ntmps53
  go_wp2
  refine wp_loop_rounds 5 ?_
  rw [rounds_succ]
  go_wp2
  go_quiet (fail)
  go_wp2
  rw [rounds_succ]
  go_wp2
  go_quiet (fail)
  go_wp2
  rw [rounds_succ]
  go_wp2
  go_quiet (fail)
  go_wp2
  rw [rounds_succ]
  go_wp2
  go_quiet (fail)
  go_wp2
  rw [rounds_succ]
  go_wp2
  exact bodyPost_ret (v := _) (by simp [results, Try.results53, go_sem]) rfl ⟨rfl, (by repeat' (first | (with_reducible exact Below.refl _ _) | (with_reducible refine below_drewM ?_ _) | (with_reducible refine Below.drew ?_) | (with_reducible refine Below.setCell ?_ ?_ _) | (with_reducible refine Below.alloc ?_ ?_ _) | omega | (simp; done) | (simp; omega)))⟩

set_option maxRecDepth 100000 in
set_option maxHeartbeats 4000000 in
theorem minus_raw (a0 a1 a2 a3 b0 b1 b2 b3 : Int) (ha0 : In a0) (ha1 : In a1) (ha2 : In a2) (ha3 : In a3) (hb0 : In b0) (hb1 : In b1) (hb2 : In b2) (hb3 : In b3) (w : World) (c1 c2 c3 : Int) (hc1 : c1 = 1 - (a0 + 4294967296 - b0) / 4294967296) (hc2 : c2 = 1 - (a1 + 4294967296 - b1 - c1) / 4294967296) (hc3 : c3 = 1 - (a2 + 4294967296 - b2 - c2) / 4294967296) :
    Calls Try.prog 55 #[.agg #[.int .u64 a0, .int .u64 a1, .int .u64 a2, .int .u64 a3], .agg #[.int .u64 b0, .int .u64 b1, .int .u64 b2, .int .u64 b3]] w fun e w' =>
      e = .returned (.agg #[.int .u64 ((a0 + 4294967296 - b0) % 4294967296), .int .u64 ((a1 + 4294967296 - b1 - c1) % 4294967296), .int .u64 ((a2 + 4294967296 - b2 - c2) % 4294967296), .int .u64 ((a3 + 4294967296 - b3 - c3) % 4294967296)]) ∧ Below w.heap.size w w' := by
  obtain ⟨p0, q0⟩ := ha0
  obtain ⟨p1, q1⟩ := ha1
  obtain ⟨p2, q2⟩ := ha2
  obtain ⟨p3, q3⟩ := ha3
  obtain ⟨r0, s0⟩ := hb0
  obtain ⟨r1, s1⟩ := hb1
  obtain ⟨r2, s2⟩ := hb2
  obtain ⟨r3, s3⟩ := hb3
  subst hc1 hc2 hc3
  go_enter Try.func55, Try.ntmps55
  go_wp2
  refine wp_loop_rounds 5 ?_
  rw [rounds_succ]
  go_wp2
  go_quiet (fail)
  go_wp2
  rw [rounds_succ]
  go_wp2
  go_quiet (fail)
  go_wp2
  rw [rounds_succ]
  go_wp2
  go_quiet (fail)
  go_wp2
  rw [rounds_succ]
  go_wp2
  go_quiet (fail)
  go_wp2
  rw [rounds_succ]
  go_wp2
  exact bodyPost_ret (v := _) (by simp [results, Try.results55, go_sem]) rfl ⟨rfl, (by repeat' (first | (with_reducible exact Below.refl _ _) | (with_reducible refine below_drewM ?_ _) | (with_reducible refine Below.drew ?_) | (with_reducible refine Below.setCell ?_ ?_ _) | (with_reducible refine Below.alloc ?_ ?_ _) | omega | (simp; done) | (simp; omega)))⟩

theorem plus_any (x y : Int) (hx : Fit x) (hy : Fit y) (hf : Fit (x + y)) (w : World) :
    Calls Try.prog 53 #[arrV x, arrV y] w fun e w' => e = .returned (arrV (x + y)) ∧ Below w.heap.size w w' := by
  obtain ⟨a0, a1, a2, a3⟩ := dg_in x
  obtain ⟨b0, b1, b2, b3⟩ := dg_in y
  obtain ⟨z0, z1, z2, z3⟩ := plus_dg (dg_sum hx) (dg_sum hy) a0 a1 a2 a3 b0 b1 b2 b3 hf rfl rfl rfl
  unfold arrV
  rw [z0, z1, z2, z3]
  exact plus_raw _ _ _ _ _ _ _ _ a0 a1 a2 a3 b0 b1 b2 b3 w

theorem minus_any (x y : Int) (hx : Fit x) (hy : Fit y) (hf : y ≤ x) (w : World) :
    Calls Try.prog 55 #[arrV x, arrV y] w fun e w' => e = .returned (arrV (x - y)) ∧ Below w.heap.size w w' := by
  obtain ⟨a0, a1, a2, a3⟩ := dg_in x
  obtain ⟨b0, b1, b2, b3⟩ := dg_in y
  obtain ⟨z0, z1, z2, z3⟩ := minus_dg (dg_sum hx) (dg_sum hy) a0 a1 a2 a3 b0 b1 b2 b3 hf rfl rfl rfl
  unfold arrV
  rw [z0, z1, z2, z3]
  exact minus_raw _ _ _ _ _ _ _ _ a0 a1 a2 a3 b0 b1 b2 b3 w _ _ _ rfl rfl rfl

end Go.Proofs.Ytibanikfalfmcaa
