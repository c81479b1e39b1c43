/-
  The reference's wide numbers: a number as a wide one.
-/
import Derived.Test.YtibanikfalfmcaaWide
namespace Go.Proofs.Ytibanikfalfmcaa
open Go.RowKit
set_option linter.unusedVariables false

theorem wide_of {n : Bool} {a0 a1 : Int} {x : Int} (h0 : 0 ≤ x) (h1 : x < 18446744073709551616) (e0 : a0 = x % 4294967296) (e1 : a1 = x / 4294967296) : Value.agg #[.bool n, .int .u64 a0, .int .u64 a1, .int .u64 0, .int .u64 0] = wideV n x := by
  obtain ⟨z0, z1, z2, z3⟩ := dg_small h0 h1
  unfold wideV
  rw [z0, z1, z2, z3, e0, e1]

set_option maxRecDepth 100000 in
set_option maxHeartbeats 4000000 in
theorem of_neg (a : Int) (h0 : -9223372036854775808 ≤ a) (hn : a < 0) (w : World) :
    Calls Try.prog 24 #[.int .i64 a] w fun e w' => e = .returned (wideV true (-a)) ∧ Below w.heap.size w w' := by
  have HE : Hid (Value.agg #[.bool true, .int .u64 ((-(a + 1) + 1) % 4294967296), .int .u64 ((-(a + 1) + 1) / 4294967296), .int .u64 0, .int .u64 0] = wideV true (-a)) :=
    wide_of (by omega) (by omega) (by omega) (by omega)
  generalize wideV true (-a) = R at *
  go_enter Try.func24, Try.ntmps24
  go_wp2
  refine bodyPost_ret (v := R) ?_ rfl ⟨rfl, (by repeat' (first | (with_reducible exact Below.refl _ _) | (with_reducible refine below_drewM ?_ _) | (with_reducible refine Below.drew ?_) | (with_reducible refine Below.setCell ?_ ?_ _) | (with_reducible refine Below.alloc ?_ ?_ _) | omega | (simp; done) | (simp; omega)))⟩
  rw [← HE.out]
  simp [results, Try.results24, go_sem]

set_option maxRecDepth 100000 in
set_option maxHeartbeats 4000000 in
theorem of_pos (a : Int) (h1 : a ≤ 9223372036854775807) (hp : 0 ≤ a) (w : World) :
    Calls Try.prog 24 #[.int .i64 a] w fun e w' => e = .returned (wideV false a) ∧ Below w.heap.size w w' := by
  have HE : Hid (Value.agg #[.bool false, .int .u64 (a % 4294967296), .int .u64 (a / 4294967296), .int .u64 0, .int .u64 0] = wideV false a) :=
    wide_of (by omega) (by omega) (by omega) (by omega)
  generalize wideV false a = R at *
  have hn : ¬ a < 0 := by omega
  go_enter Try.func24, Try.ntmps24
  go_wp2
  refine bodyPost_ret (v := R) ?_ rfl ⟨rfl, (by repeat' (first | (with_reducible exact Below.refl _ _) | (with_reducible refine below_drewM ?_ _) | (with_reducible refine Below.drew ?_) | (with_reducible refine Below.setCell ?_ ?_ _) | (with_reducible refine Below.alloc ?_ ?_ _) | omega | (simp; done) | (simp; omega)))⟩
  rw [← HE.out]
  simp [results, Try.results24, go_sem]
end Go.Proofs.Ytibanikfalfmcaa
