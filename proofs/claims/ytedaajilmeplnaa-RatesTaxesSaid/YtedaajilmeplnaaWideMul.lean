/-
  The reference's wide numbers: the product of two of at most 64 bits.
-/
import Derived.Test.YtedaajilmeplnaaWideAdd
namespace Go.Proofs.Ytedaajilmeplnaa
open Go.RowKit
set_option linter.unusedVariables false

theorem plus_dgs {x y a0 a1 a2 a3 b0 b1 b2 b3 : Int} (hx : Dg x a0 a1 a2 a3) (hy : Dg y b0 b1 b2 b3) (ha0 : In a0) (ha1 : In a1) (ha2 : In a2) (ha3 : In a3) (hb0 : In b0) (hb1 : In b1) (hb2 : In b2) (hb3 : In b3) (hf : Fit (x + y)) (w : World) :
    Calls Try.prog 34 #[.agg #[.int .u64 a0, .int .u64 a1, .int .u64 a2, .int .u64 a3], .agg #[.int .u64 b0, .int .u64 b1, .int .u64 b2, .int .u64 b3]] w fun e w' => e = .returned (arrV (x + y)) ∧ Below w.heap.size w w' := by
  obtain ⟨z0, z1, z2, z3⟩ := plus_dg hx hy ha0 ha1 ha2 ha3 hb0 hb1 hb2 hb3 hf rfl rfl rfl
  unfold arrV
  rw [z0, z1, z2, z3]
  exact plus_raw _ _ _ _ _ _ _ _ ha0 ha1 ha2 ha3 hb0 hb1 hb2 hb3 w

theorem dg_one {p : Int} (h0 : 0 ≤ p) (h1 : p < 18446744073709551616) : Dg p (p % 4294967296) (p / 4294967296) 0 0 ∧ Dg (p * 4294967296) 0 (p % 4294967296) (p / 4294967296) 0 ∧ Dg (p * 18446744073709551616) 0 0 (p % 4294967296) (p / 4294967296) ∧ In (p % 4294967296) ∧ In (p / 4294967296) := by
  unfold Dg In; omega
theorem in_zero : In 0 := by unfold In; omega

structure MulSt (w : World) (n1 n2 : Bool) (x0 x1 x2 x3 y0 y1 y2 y3 o0 o1 o2 o3 : Int) (W : World) : Prop where
  below : Below w.heap.size w W
  size : w.heap.size + 1 + 1 + 1 + 1 ≤ W.heap.size
  b0 : W.heap[w.heap.size]? = some (.cells #[.bool n1, .int .u64 x0, .int .u64 x1, .int .u64 x2, .int .u64 x3] 49 (0, 0))
  b1 : W.heap[w.heap.size + 1]? = some (.cells #[.bool n2, .int .u64 y0, .int .u64 y1, .int .u64 y2, .int .u64 y3] 49 (0, 0))
  b2 : W.heap[w.heap.size + 1 + 1]? = some (.cells #[.bool false, .int .u64 0, .int .u64 0, .int .u64 0, .int .u64 0] 49 (0, 0))
  b3 : W.heap[w.heap.size + 1 + 1 + 1]? = some (.cells #[.int .u64 o0, .int .u64 o1, .int .u64 o2, .int .u64 o3] 47 (0, 0))
section
variable {w W W' : World} {n1 n2 : Bool} {x0 x1 x2 x3 y0 y1 y2 y3 o0 o1 o2 o3 : Int}
theorem MulSt.call (h : MulSt w n1 n2 x0 x1 x2 x3 y0 y1 y2 y3 o0 o1 o2 o3 W) (hb : Below W.heap.size W W') : MulSt w n1 n2 x0 x1 x2 x3 y0 y1 y2 y3 o0 o1 o2 o3 W' :=
  ⟨h.below.trans (hb.mono h.below.size), Nat.le_trans h.size hb.size, (hb.block _ (by have := h.size; omega)).trans h.b0, (hb.block _ (by have := h.size; omega)).trans h.b1, (hb.block _ (by have := h.size; omega)).trans h.b2, (hb.block _ (by have := h.size; omega)).trans h.b3⟩
theorem MulSt.new (w : World) (n1 n2 : Bool) (x0 x1 x2 x3 y0 y1 y2 y3 : Int) : MulSt w n1 n2 x0 x1 x2 x3 y0 y1 y2 y3 0 0 0 0 ((((w.alloc (.cells #[.bool n1, .int .u64 x0, .int .u64 x1, .int .u64 x2, .int .u64 x3] 49)).alloc (.cells #[.bool n2, .int .u64 y0, .int .u64 y1, .int .u64 y2, .int .u64 y3] 49)).alloc (.cells #[.bool false, .int .u64 0, .int .u64 0, .int .u64 0, .int .u64 0] 49)).alloc (.cells #[.int .u64 0, .int .u64 0, .int .u64 0, .int .u64 0] 47)) := by
  obtain ⟨g0, g1, g2⟩ := blocks3 w (.cells #[.bool n1, .int .u64 x0, .int .u64 x1, .int .u64 x2, .int .u64 x3] 49) (.cells #[.bool n2, .int .u64 y0, .int .u64 y1, .int .u64 y2, .int .u64 y3] 49) (.cells #[.bool false, .int .u64 0, .int .u64 0, .int .u64 0, .int .u64 0] 49)
  refine ⟨((((Below.refl _ w).alloc (Nat.le_refl _) _).alloc (by simp) _).alloc (by simp; omega) _).alloc (by simp; omega) _, by simp, ?_, ?_, ?_, ?_⟩
  · exact (Below.heap_alloc _ _ _ (by simp only [World.size_alloc]; omega)).trans g0
  · exact (Below.heap_alloc _ _ _ (by simp only [World.size_alloc]; omega)).trans g1
  · exact (Below.heap_alloc _ _ _ (by simp only [World.size_alloc]; omega)).trans g2
  · have h := heap_alloc_new (((w.alloc (.cells #[.bool n1, .int .u64 x0, .int .u64 x1, .int .u64 x2, .int .u64 x3] 49)).alloc (.cells #[.bool n2, .int .u64 y0, .int .u64 y1, .int .u64 y2, .int .u64 y3] 49)).alloc (.cells #[.bool false, .int .u64 0, .int .u64 0, .int .u64 0, .int .u64 0] 49)) (.cells #[.int .u64 0, .int .u64 0, .int .u64 0, .int .u64 0] 47)
    simp only [World.size_alloc] at h
    exact h
theorem MulSt.facts (h : MulSt w n1 n2 x0 x1 x2 x3 y0 y1 y2 y3 o0 o1 o2 o3 W) : W.cell? ⟨w.heap.size, 1, none⟩ = some (.int .u64 x0) ∧ W.cell? ⟨w.heap.size, 2, none⟩ = some (.int .u64 x1) ∧ W.cell? ⟨w.heap.size + 1, 1, none⟩ = some (.int .u64 y0) ∧ W.cell? ⟨w.heap.size + 1, 2, none⟩ = some (.int .u64 y1) ∧ W.cell? ⟨w.heap.size, 0, none⟩ = some (.bool n1) ∧ W.cell? ⟨w.heap.size + 1, 0, none⟩ = some (.bool n2) ∧ W.cell? ⟨w.heap.size + 1 + 1, 0, none⟩ = some (.bool false) ∧ W.cell? ⟨w.heap.size + 1 + 1, 1, none⟩ = some (.int .u64 0) ∧ W.cell? ⟨w.heap.size + 1 + 1, 2, none⟩ = some (.int .u64 0) ∧ W.cell? ⟨w.heap.size + 1 + 1, 3, none⟩ = some (.int .u64 0) ∧ W.cell? ⟨w.heap.size + 1 + 1, 4, none⟩ = some (.int .u64 0) ∧ W.cell? ⟨w.heap.size + 1 + 1 + 1, 0, none⟩ = some (.int .u64 o0) ∧ W.cell? ⟨w.heap.size + 1 + 1 + 1, 1, none⟩ = some (.int .u64 o1) ∧ W.cell? ⟨w.heap.size + 1 + 1 + 1, 2, none⟩ = some (.int .u64 o2) ∧ W.cell? ⟨w.heap.size + 1 + 1 + 1, 3, none⟩ = some (.int .u64 o3) ∧ W.frozen? ⟨w.heap.size + 1 + 1, 0, none⟩ = false ∧ W.frozen? ⟨w.heap.size + 1 + 1, 1, none⟩ = false ∧ W.frozen? ⟨w.heap.size + 1 + 1, 2, none⟩ = false ∧ W.frozen? ⟨w.heap.size + 1 + 1, 3, none⟩ = false ∧ W.frozen? ⟨w.heap.size + 1 + 1, 4, none⟩ = false ∧ W.frozen? ⟨w.heap.size + 1 + 1 + 1, 0, none⟩ = false ∧ W.frozen? ⟨w.heap.size + 1 + 1 + 1, 1, none⟩ = false ∧ W.frozen? ⟨w.heap.size + 1 + 1 + 1, 2, none⟩ = false ∧ W.frozen? ⟨w.heap.size + 1 + 1 + 1, 3, none⟩ = false :=
  ⟨Joins.cell_of_block h.b0 1, Joins.cell_of_block h.b0 2, Joins.cell_of_block h.b1 1, Joins.cell_of_block h.b1 2, Joins.cell_of_block h.b0 0, Joins.cell_of_block h.b1 0, Joins.cell_of_block h.b2 0, Joins.cell_of_block h.b2 1, Joins.cell_of_block h.b2 2, Joins.cell_of_block h.b2 3, Joins.cell_of_block h.b2 4, Joins.cell_of_block h.b3 0, Joins.cell_of_block h.b3 1, Joins.cell_of_block h.b3 2, Joins.cell_of_block h.b3 3, Joins.unfrozen_of_block h.b2 0, Joins.unfrozen_of_block h.b2 1, Joins.unfrozen_of_block h.b2 2, Joins.unfrozen_of_block h.b2 3, Joins.unfrozen_of_block h.b2 4, Joins.unfrozen_of_block h.b3 0, Joins.unfrozen_of_block h.b3 1, Joins.unfrozen_of_block h.b3 2, Joins.unfrozen_of_block h.b3 3⟩
theorem MulSt.put (h : MulSt w n1 n2 x0 x1 x2 x3 y0 y1 y2 y3 o0 o1 o2 o3 W) (z0 z1 z2 z3 : Int) : MulSt w n1 n2 x0 x1 x2 x3 y0 y1 y2 y3 z0 z1 z2 z3
    ((((W.setCell ⟨w.heap.size + 1 + 1 + 1, 0, none⟩ (.int .u64 z0)).setCell ⟨w.heap.size + 1 + 1 + 1, 1, none⟩ (.int .u64 z1)).setCell ⟨w.heap.size + 1 + 1 + 1, 2, none⟩ (.int .u64 z2)).setCell ⟨w.heap.size + 1 + 1 + 1, 3, none⟩ (.int .u64 z3)) := by
  have hb : Below (w.heap.size + 1 + 1 + 1) W ((((W.setCell ⟨w.heap.size + 1 + 1 + 1, 0, none⟩ (.int .u64 z0)).setCell ⟨w.heap.size + 1 + 1 + 1, 1, none⟩ (.int .u64 z1)).setCell ⟨w.heap.size + 1 + 1 + 1, 2, none⟩ (.int .u64 z2)).setCell ⟨w.heap.size + 1 + 1 + 1, 3, none⟩ (.int .u64 z3)) :=
    ((((Below.refl _ W).setCell (p := ⟨w.heap.size + 1 + 1 + 1, 0, none⟩) (Nat.le_refl _) _).setCell (p := ⟨w.heap.size + 1 + 1 + 1, 1, none⟩) (Nat.le_refl _) _).setCell (p := ⟨w.heap.size + 1 + 1 + 1, 2, none⟩) (Nat.le_refl _) _).setCell (p := ⟨w.heap.size + 1 + 1 + 1, 3, none⟩) (Nat.le_refl _) _
  have hk := Joins.block_setCell (i := 3) (Joins.block_setCell (i := 2) (Joins.block_setCell (i := 1) (Joins.block_setCell (i := 0) h.b3 (.int .u64 z0)) (.int .u64 z1)) (.int .u64 z2)) (.int .u64 z3)
  exact ⟨h.below.trans (hb.mono (by omega)), le_set (le_set (le_set (le_set h.size))), (hb.block _ (by omega)).trans h.b0, (hb.block _ (by omega)).trans h.b1, (hb.block _ (by omega)).trans h.b2, hk⟩
end

theorem mul_dg {x y x0 x1 y0 y1 : Int} (hx : x = x0 + x1 * 4294967296) (hy : y = y0 + y1 * 4294967296) : 0 + x0 * y0 + x0 * y1 * 4294967296 + x1 * y0 * 4294967296 + x1 * y1 * 18446744073709551616 = x * y := by
  subst hx hy
  rw [Int.add_mul, Int.mul_add, Int.mul_add, ← Int.mul_assoc x0 y1, Int.mul_right_comm x1 4294967296 y0, ← Int.mul_assoc (x1 * 4294967296) y1, Int.mul_right_comm x1 4294967296 y1, Int.mul_assoc (x1 * y1)]
  omega
theorem mul_bd {a b : Int} (ha : In a) (hb : In b) : 0 ≤ a * b ∧ a * b ≤ 18446744065119617025 := by
  unfold In at *
  have h1 : a * b ≤ 4294967295 * 4294967295 := Int.mul_le_mul (by omega) (by omega) hb.1 (by omega)
  exact ⟨Int.mul_nonneg ha.1 hb.1, by omega⟩

set_option maxRecDepth 100000 in
set_option maxHeartbeats 8000000 in
theorem mul_raw (n1 n2 : Bool) (x0 x1 x2 x3 y0 y1 y2 y3 p00 p01 p10 p11 : Int) (h00 : IntKind.u64.wrap (x0 * y0) = p00) (h01 : IntKind.u64.wrap (x0 * y1) = p01) (h10 : IntKind.u64.wrap (x1 * y0) = p10) (h11 : IntKind.u64.wrap (x1 * y1) = p11)
    (l00 : 0 ≤ p00) (m00 : p00 ≤ 18446744065119617025) (l01 : 0 ≤ p01) (m01 : p01 ≤ 18446744065119617025) (l10 : 0 ≤ p10) (m10 : p10 ≤ 18446744065119617025) (l11 : 0 ≤ p11) (m11 : p11 ≤ 18446744065119617025) (w : World) :
    Calls Try.prog 26 #[.agg #[.bool n1, .int .u64 x0, .int .u64 x1, .int .u64 x2, .int .u64 x3], .agg #[.bool n2, .int .u64 y0, .int .u64 y1, .int .u64 y2, .int .u64 y3]] w fun e w' => e = .returned (wideV (!(n1 == n2)) (0 + p00 + p01 * 4294967296 + p10 * 4294967296 + p11 * 18446744073709551616)) ∧ Below w.heap.size w w' := by
  have D00 := dg_one (p := p00) l00 (by omega)
  have P0 := hide (fun W => plus_dgs (x := 0) (y := p00) (a0 := 0) (a1 := 0) (a2 := 0) (a3 := 0) (by unfold Dg; omega) D00.1 in_zero in_zero in_zero in_zero D00.2.2.2.1 D00.2.2.2.2 in_zero in_zero (by unfold Fit; omega) W)
  have D01 := dg_one (p := p01) l01 (by omega)
  have P1 := hide (fun W => plus_dgs (x := 0 + p00) (y := p01 * 4294967296) (dg_sum (by unfold Fit; omega)) D01.2.1 (dg_in _).1 (dg_in _).2.1 (dg_in _).2.2.1 (dg_in _).2.2.2 in_zero D01.2.2.2.1 D01.2.2.2.2 in_zero (by unfold Fit; omega) W)
  have D10 := dg_one (p := p10) l10 (by omega)
  have P2 := hide (fun W => plus_dgs (x := 0 + p00 + p01 * 4294967296) (y := p10 * 4294967296) (dg_sum (by unfold Fit; omega)) D10.2.1 (dg_in _).1 (dg_in _).2.1 (dg_in _).2.2.1 (dg_in _).2.2.2 in_zero D10.2.2.2.1 D10.2.2.2.2 in_zero (by unfold Fit; omega) W)
  have D11 := dg_one (p := p11) l11 (by omega)
  have P3 := hide (fun W => plus_dgs (x := 0 + p00 + p01 * 4294967296 + p10 * 4294967296) (y := p11 * 18446744073709551616) (dg_sum (by unfold Fit; omega)) D11.2.2.1 (dg_in _).1 (dg_in _).2.1 (dg_in _).2.2.1 (dg_in _).2.2.2 in_zero in_zero D11.2.2.2.1 D11.2.2.2.2 (by unfold Fit; omega) W)
  unfold wideV
  unfold arrV at *
  clear D00
  clear D01
  clear D10
  clear D11
  generalize dg0 (0 + p00 + p01 * 4294967296 + p10 * 4294967296 + p11 * 18446744073709551616) = v40 at *
  generalize dg1 (0 + p00 + p01 * 4294967296 + p10 * 4294967296 + p11 * 18446744073709551616) = v41 at *
  generalize dg2 (0 + p00 + p01 * 4294967296 + p10 * 4294967296 + p11 * 18446744073709551616) = v42 at *
  generalize dg3 (0 + p00 + p01 * 4294967296 + p10 * 4294967296 + p11 * 18446744073709551616) = v43 at *
  generalize dg0 (0 + p00 + p01 * 4294967296 + p10 * 4294967296) = v30 at *
  generalize dg1 (0 + p00 + p01 * 4294967296 + p10 * 4294967296) = v31 at *
  generalize dg2 (0 + p00 + p01 * 4294967296 + p10 * 4294967296) = v32 at *
  generalize dg3 (0 + p00 + p01 * 4294967296 + p10 * 4294967296) = v33 at *
  generalize dg0 (0 + p00 + p01 * 4294967296) = v20 at *
  generalize dg1 (0 + p00 + p01 * 4294967296) = v21 at *
  generalize dg2 (0 + p00 + p01 * 4294967296) = v22 at *
  generalize dg3 (0 + p00 + p01 * 4294967296) = v23 at *
  generalize dg0 (0 + p00) = v10 at *
  generalize dg1 (0 + p00) = v11 at *
  generalize dg2 (0 + p00) = v12 at *
  generalize dg3 (0 + p00) = v13 at *
  have hM := MulSt.new w n1 n2 x0 x1 x2 x3 y0 y1 y2 y3
  have M0 := hide hM
  clear hM
  go_enter Try.func26, Try.ntmps26
  go_wp2
  generalize ((((w.alloc (.cells #[.bool n1, .int .u64 x0, .int .u64 x1, .int .u64 x2, .int .u64 x3] 49)).alloc (.cells #[.bool n2, .int .u64 y0, .int .u64 y1, .int .u64 y2, .int .u64 y3] 49)).alloc (.cells #[.bool false, .int .u64 0, .int .u64 0, .int .u64 0, .int .u64 0] 49)).alloc (.cells #[.int .u64 0, .int .u64 0, .int .u64 0, .int .u64 0] 47)) = W0 at *
  refine wp_loop_rounds 3 ?_
  have hz0 : w.heap.size + 1 + 1 + 1 + 1 ≤ W0.heap.size := M0.out.size
  obtain ⟨c0, c1, c2, c3, c4, c5, c6, c7, c8, c9, c10, c11, c12, c13, c14, f0, f1, f2, f3, f4, f5, f6, f7, f8⟩ := M0.out.facts
  rw [rounds_succ]
  go_wp2
  refine wp_loop_rounds 3 ?_
  rw [rounds_succ]
  go_wp2
  go_quiet (fail)
  have MX0 := hide (M0.out.call (below_drewM (Below.refl _ _) nq))
  clear c0 c1 c2 c3 c4 c5 c6 c7 c8 c9 c10 c11 c12 c13 c14 f0 f1 f2 f3 f4 f5 f6 f7 f8 hz0 M0
  generalize W0.drewN nq = X0 at *
  have hz0 : w.heap.size + 1 + 1 + 1 + 1 ≤ X0.heap.size := MX0.out.size
  have lt0 : w.heap.size < X0.heap.size := by omega
  have lt1 : w.heap.size + 1 < X0.heap.size := by omega
  have lt2 : w.heap.size + 1 + 1 < X0.heap.size := by omega
  have lt3 : w.heap.size + 1 + 1 + 1 < X0.heap.size := by omega
  obtain ⟨c0, c1, c2, c3, c4, c5, c6, c7, c8, c9, c10, c11, c12, c13, c14, f0, f1, f2, f3, f4, f5, f6, f7, f8⟩ := MX0.out.facts
  go_wp2_with (go_at_call 34; refine halted ?_)
  refine go_on ?_
  refine (P0.out _).mono ?_
  rintro e U0 ⟨rfl, hb⟩
  have MU := (MX0.out.call ((Below.refl _ _).alloc (Nat.le_refl _) _)).call hb
  clear hb lt0 lt1 lt2 lt3 c0 c1 c2 c3 c4 c5 c6 c7 c8 c9 c10 c11 c12 c13 c14 f0 f1 f2 f3 f4 f5 f6 f7 f8
  obtain ⟨c0, c1, c2, c3, c4, c5, c6, c7, c8, c9, c10, c11, c12, c13, c14, f0, f1, f2, f3, f4, f5, f6, f7, f8⟩ := MU.facts
  have HMU := hide MU
  clear MU
  go_wp2
  have M1 := hide (HMU.out.put v10 v11 v12 v13)
  clear c0 c1 c2 c3 c4 c5 c6 c7 c8 c9 c10 c11 c12 c13 c14 f0 f1 f2 f3 f4 f5 f6 f7 f8 HMU hz0 MX0 P0
  generalize ((((U0.setCell ⟨w.heap.size + 1 + 1 + 1, 0, none⟩ (.int .u64 v10)).setCell ⟨w.heap.size + 1 + 1 + 1, 1, none⟩ (.int .u64 v11)).setCell ⟨w.heap.size + 1 + 1 + 1, 2, none⟩ (.int .u64 v12)).setCell ⟨w.heap.size + 1 + 1 + 1, 3, none⟩ (.int .u64 v13)) = W1 at *
  have hz1 : w.heap.size + 1 + 1 + 1 + 1 ≤ W1.heap.size := M1.out.size
  obtain ⟨c0, c1, c2, c3, c4, c5, c6, c7, c8, c9, c10, c11, c12, c13, c14, f0, f1, f2, f3, f4, f5, f6, f7, f8⟩ := M1.out.facts
  rw [rounds_succ]
  go_wp2
  go_quiet (fail)
  have MX1 := hide (M1.out.call (below_drewM (Below.refl _ _) nq))
  clear c0 c1 c2 c3 c4 c5 c6 c7 c8 c9 c10 c11 c12 c13 c14 f0 f1 f2 f3 f4 f5 f6 f7 f8 hz1 M1
  generalize W1.drewN nq = X1 at *
  have hz1 : w.heap.size + 1 + 1 + 1 + 1 ≤ X1.heap.size := MX1.out.size
  have lt0 : w.heap.size < X1.heap.size := by omega
  have lt1 : w.heap.size + 1 < X1.heap.size := by omega
  have lt2 : w.heap.size + 1 + 1 < X1.heap.size := by omega
  have lt3 : w.heap.size + 1 + 1 + 1 < X1.heap.size := by omega
  obtain ⟨c0, c1, c2, c3, c4, c5, c6, c7, c8, c9, c10, c11, c12, c13, c14, f0, f1, f2, f3, f4, f5, f6, f7, f8⟩ := MX1.out.facts
  go_wp2_with (go_at_call 34; refine halted ?_)
  refine go_on ?_
  refine (P1.out _).mono ?_
  rintro e U1 ⟨rfl, hb⟩
  have MU := (MX1.out.call ((Below.refl _ _).alloc (Nat.le_refl _) _)).call hb
  clear hb lt0 lt1 lt2 lt3 c0 c1 c2 c3 c4 c5 c6 c7 c8 c9 c10 c11 c12 c13 c14 f0 f1 f2 f3 f4 f5 f6 f7 f8
  obtain ⟨c0, c1, c2, c3, c4, c5, c6, c7, c8, c9, c10, c11, c12, c13, c14, f0, f1, f2, f3, f4, f5, f6, f7, f8⟩ := MU.facts
  have HMU := hide MU
  clear MU
  go_wp2
  have M2 := hide (HMU.out.put v20 v21 v22 v23)
  clear c0 c1 c2 c3 c4 c5 c6 c7 c8 c9 c10 c11 c12 c13 c14 f0 f1 f2 f3 f4 f5 f6 f7 f8 HMU hz1 MX1 P1
  generalize ((((U1.setCell ⟨w.heap.size + 1 + 1 + 1, 0, none⟩ (.int .u64 v20)).setCell ⟨w.heap.size + 1 + 1 + 1, 1, none⟩ (.int .u64 v21)).setCell ⟨w.heap.size + 1 + 1 + 1, 2, none⟩ (.int .u64 v22)).setCell ⟨w.heap.size + 1 + 1 + 1, 3, none⟩ (.int .u64 v23)) = W2 at *
  rw [rounds_succ]
  go_wp2
  have hz2 : w.heap.size + 1 + 1 + 1 + 1 ≤ W2.heap.size := M2.out.size
  obtain ⟨c0, c1, c2, c3, c4, c5, c6, c7, c8, c9, c10, c11, c12, c13, c14, f0, f1, f2, f3, f4, f5, f6, f7, f8⟩ := M2.out.facts
  rw [rounds_succ]
  go_wp2
  refine wp_loop_rounds 3 ?_
  rw [rounds_succ]
  go_wp2
  go_quiet (fail)
  have MX2 := hide (M2.out.call (below_drewM (Below.refl _ _) nq))
  clear c0 c1 c2 c3 c4 c5 c6 c7 c8 c9 c10 c11 c12 c13 c14 f0 f1 f2 f3 f4 f5 f6 f7 f8 hz2 M2
  generalize W2.drewN nq = X2 at *
  have hz2 : w.heap.size + 1 + 1 + 1 + 1 ≤ X2.heap.size := MX2.out.size
  have lt0 : w.heap.size < X2.heap.size := by omega
  have lt1 : w.heap.size + 1 < X2.heap.size := by omega
  have lt2 : w.heap.size + 1 + 1 < X2.heap.size := by omega
  have lt3 : w.heap.size + 1 + 1 + 1 < X2.heap.size := by omega
  obtain ⟨c0, c1, c2, c3, c4, c5, c6, c7, c8, c9, c10, c11, c12, c13, c14, f0, f1, f2, f3, f4, f5, f6, f7, f8⟩ := MX2.out.facts
  go_wp2_with (go_at_call 34; refine halted ?_)
  refine go_on ?_
  refine (P2.out _).mono ?_
  rintro e U2 ⟨rfl, hb⟩
  have MU := (MX2.out.call ((Below.refl _ _).alloc (Nat.le_refl _) _)).call hb
  clear hb lt0 lt1 lt2 lt3 c0 c1 c2 c3 c4 c5 c6 c7 c8 c9 c10 c11 c12 c13 c14 f0 f1 f2 f3 f4 f5 f6 f7 f8
  obtain ⟨c0, c1, c2, c3, c4, c5, c6, c7, c8, c9, c10, c11, c12, c13, c14, f0, f1, f2, f3, f4, f5, f6, f7, f8⟩ := MU.facts
  have HMU := hide MU
  clear MU
  go_wp2
  have M3 := hide (HMU.out.put v30 v31 v32 v33)
  clear c0 c1 c2 c3 c4 c5 c6 c7 c8 c9 c10 c11 c12 c13 c14 f0 f1 f2 f3 f4 f5 f6 f7 f8 HMU hz2 MX2 P2
  generalize ((((U2.setCell ⟨w.heap.size + 1 + 1 + 1, 0, none⟩ (.int .u64 v30)).setCell ⟨w.heap.size + 1 + 1 + 1, 1, none⟩ (.int .u64 v31)).setCell ⟨w.heap.size + 1 + 1 + 1, 2, none⟩ (.int .u64 v32)).setCell ⟨w.heap.size + 1 + 1 + 1, 3, none⟩ (.int .u64 v33)) = W3 at *
  have hz3 : w.heap.size + 1 + 1 + 1 + 1 ≤ W3.heap.size := M3.out.size
  obtain ⟨c0, c1, c2, c3, c4, c5, c6, c7, c8, c9, c10, c11, c12, c13, c14, f0, f1, f2, f3, f4, f5, f6, f7, f8⟩ := M3.out.facts
  rw [rounds_succ]
  go_wp2
  go_quiet (fail)
  have MX3 := hide (M3.out.call (below_drewM (Below.refl _ _) nq))
  clear c0 c1 c2 c3 c4 c5 c6 c7 c8 c9 c10 c11 c12 c13 c14 f0 f1 f2 f3 f4 f5 f6 f7 f8 hz3 M3
  generalize W3.drewN nq = X3 at *
  have hz3 : w.heap.size + 1 + 1 + 1 + 1 ≤ X3.heap.size := MX3.out.size
  have lt0 : w.heap.size < X3.heap.size := by omega
  have lt1 : w.heap.size + 1 < X3.heap.size := by omega
  have lt2 : w.heap.size + 1 + 1 < X3.heap.size := by omega
  have lt3 : w.heap.size + 1 + 1 + 1 < X3.heap.size := by omega
  obtain ⟨c0, c1, c2, c3, c4, c5, c6, c7, c8, c9, c10, c11, c12, c13, c14, f0, f1, f2, f3, f4, f5, f6, f7, f8⟩ := MX3.out.facts
  go_wp2_with (go_at_call 34; refine halted ?_)
  refine go_on ?_
  refine (P3.out _).mono ?_
  rintro e U3 ⟨rfl, hb⟩
  have MU := (MX3.out.call ((Below.refl _ _).alloc (Nat.le_refl _) _)).call hb
  clear hb lt0 lt1 lt2 lt3 c0 c1 c2 c3 c4 c5 c6 c7 c8 c9 c10 c11 c12 c13 c14 f0 f1 f2 f3 f4 f5 f6 f7 f8
  obtain ⟨c0, c1, c2, c3, c4, c5, c6, c7, c8, c9, c10, c11, c12, c13, c14, f0, f1, f2, f3, f4, f5, f6, f7, f8⟩ := MU.facts
  have HMU := hide MU
  clear MU
  go_wp2
  have M4 := hide (HMU.out.put v40 v41 v42 v43)
  clear c0 c1 c2 c3 c4 c5 c6 c7 c8 c9 c10 c11 c12 c13 c14 f0 f1 f2 f3 f4 f5 f6 f7 f8 HMU hz3 MX3 P3
  generalize ((((U3.setCell ⟨w.heap.size + 1 + 1 + 1, 0, none⟩ (.int .u64 v40)).setCell ⟨w.heap.size + 1 + 1 + 1, 1, none⟩ (.int .u64 v41)).setCell ⟨w.heap.size + 1 + 1 + 1, 2, none⟩ (.int .u64 v42)).setCell ⟨w.heap.size + 1 + 1 + 1, 3, none⟩ (.int .u64 v43)) = W4 at *
  rw [rounds_succ]
  go_wp2
  rw [rounds_succ]
  obtain ⟨c0, c1, c2, c3, c4, c5, c6, c7, c8, c9, c10, c11, c12, c13, c14, f0, f1, f2, f3, f4, f5, f6, f7, f8⟩ := M4.out.facts
  have hz4 : w.heap.size + 1 + 1 + 1 + 1 ≤ W4.heap.size := M4.out.size
  go_wp2
  have q1 := (Joins.block_setCell (i := 4) (Joins.block_setCell (i := 3) (Joins.block_setCell (i := 2) (Joins.block_setCell (i := 1) (Joins.block_setCell (i := 0) M4.out.b2 (.bool (!(n1 == n2)))) (.int .u64 v40)) (.int .u64 v41)) (.int .u64 v42)) (.int .u64 v43))
  have hbN := below5 (q := w.heap.size + 1 + 1) M4.out.below (by omega) (.bool (!(n1 == n2))) (.int .u64 v40) (.int .u64 v41) (.int .u64 v42) (.int .u64 v43)
  generalize (((((W4.setCell ⟨w.heap.size + 1 + 1, 0, none⟩ (.bool (!(n1 == n2)))).setCell ⟨w.heap.size + 1 + 1, 1, none⟩ (.int .u64 v40)).setCell ⟨w.heap.size + 1 + 1, 2, none⟩ (.int .u64 v41)).setCell ⟨w.heap.size + 1 + 1, 3, none⟩ (.int .u64 v42)).setCell ⟨w.heap.size + 1 + 1, 4, none⟩ (.int .u64 v43)) = W5 at *
  have r0 : W5.cell? ⟨w.heap.size + 1 + 1, 0, none⟩ = some (.bool (!(n1 == n2))) := Joins.cell_of_block q1 0
  have r1 : W5.cell? ⟨w.heap.size + 1 + 1, 1, none⟩ = some (.int .u64 v40) := Joins.cell_of_block q1 1
  have r2 : W5.cell? ⟨w.heap.size + 1 + 1, 2, none⟩ = some (.int .u64 v41) := Joins.cell_of_block q1 2
  have r3 : W5.cell? ⟨w.heap.size + 1 + 1, 3, none⟩ = some (.int .u64 v42) := Joins.cell_of_block q1 3
  have r4 : W5.cell? ⟨w.heap.size + 1 + 1, 4, none⟩ = some (.int .u64 v43) := Joins.cell_of_block q1 4
  refine bodyPost_ret (v := .agg #[.bool (!(n1 == n2)), .int .u64 v40, .int .u64 v41, .int .u64 v42, .int .u64 v43]) (by simp [results, Try.results26, go_sem, r0, r1, r2, r3, r4]) rfl ⟨rfl, hbN⟩

theorem mul_any (x y : Int) (hx0 : 0 ≤ x) (hx1 : x < 18446744073709551616) (hy0 : 0 ≤ y) (hy1 : y < 18446744073709551616) (w : World) :
    Calls Try.prog 26 #[wideV false x, wideV false y] w fun e w' => e = .returned (wideV false (x * y)) ∧ Below w.heap.size w w' := by
  obtain ⟨a0, a1, a2, a3⟩ := dg_in x
  obtain ⟨b0, b1, b2, b3⟩ := dg_in y
  obtain ⟨z0, z1, z2, z3⟩ := dg_small hx0 hx1
  obtain ⟨u0, u1, u2, u3⟩ := dg_small hy0 hy1
  have e := mul_dg (x := x) (y := y) (x0 := dg0 x) (x1 := dg1 x) (y0 := dg0 y) (y1 := dg1 y) (by rw [z0, z1]; omega) (by rw [u0, u1]; omega)
  obtain ⟨c0, d0⟩ := mul_bd a0 b0
  obtain ⟨c1, d1⟩ := mul_bd a0 b1
  obtain ⟨c2, d2⟩ := mul_bd a1 b0
  obtain ⟨c3, d3⟩ := mul_bd a1 b1
  rw [← e]
  exact mul_raw false false _ _ _ _ _ _ _ _ _ _ _ _ (by rw [IntKind.wrap_u64]; omega) (by rw [IntKind.wrap_u64]; omega) (by rw [IntKind.wrap_u64]; omega) (by rw [IntKind.wrap_u64]; omega) c0 d0 c1 d1 c2 d2 c3 d3 w
end Go.Proofs.Ytedaajilmeplnaa
