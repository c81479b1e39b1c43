/-
  The reference's wide numbers: sums, whatever the signs. (Written by gen_wadd19.py.)
-/
import Derived.Test.YtibanikfalfmcaaWTold19
import Derived.Test.YtibanikfalfmcaaStep
import Derived.Deep.DeepCutAuto
import Derived.Lib.SmallJoins
namespace Go.Proofs.Ytibanikfalfmcaa
open Go.RowKit
set_option linter.unusedVariables false

theorem blocks3 (w : World) (o0 o1 o2 : Obj) :
  (((w.alloc o0).alloc o1).alloc o2).heap[w.heap.size]? = some o0 ∧
  (((w.alloc o0).alloc o1).alloc o2).heap[w.heap.size + 1]? = some o1 ∧
  (((w.alloc o0).alloc o1).alloc o2).heap[w.heap.size + 1 + 1]? = some o2 := by
  have h0 := heap_alloc_new w o0
  have h1 := heap_alloc_new (w.alloc o0) o1
  have h2 := heap_alloc_new ((w.alloc o0).alloc o1) o2
  simp only [World.size_alloc] at h1 h2
  refine ⟨?_, ?_, h2⟩
  · exact (Below.heap_alloc _ _ _ (by simp only [World.size_alloc]; omega)).trans ((Below.heap_alloc _ _ _ (by simp only [World.size_alloc]; omega)).trans h0)
  · exact (Below.heap_alloc _ _ _ (by simp only [World.size_alloc]; omega)).trans h1
theorem below5 {B : Nat} {a w : World} (h : Below B a w) {q : Nat} (hq : B ≤ q) (u0 u1 u2 u3 u4 : Value) :
    Below B a (((((w.setCell ⟨q, 0, none⟩ u0).setCell ⟨q, 1, none⟩ u1).setCell ⟨q, 2, none⟩ u2).setCell ⟨q, 3, none⟩ u3).setCell ⟨q, 4, none⟩ u4) :=
  ((((h.setCell (p := ⟨q, 0, none⟩) hq _).setCell (p := ⟨q, 1, none⟩) hq _).setCell (p := ⟨q, 2, none⟩) hq _).setCell (p := ⟨q, 3, none⟩) hq _).setCell (p := ⟨q, 4, none⟩) hq _

set_option maxRecDepth 100000 in
set_option maxHeartbeats 4000000 in
theorem wadd_same (n1 n2 : Bool) (hnn : (n1 == n2) = true) (x y : Int) (hx : Fit x) (hy : Fit y) (hf : Fit (x + y)) (w : World) :
    Calls Try.prog 23 #[wideV n1 x, wideV n2 y] w fun e w' => e = .returned (wideV n1 (x + y)) ∧ Below w.heap.size w w' := by
  have hP := fun W => plus_any x y hx hy hf W
  unfold wideV
  unfold arrV at *
  generalize dg0 (x + y) = z0 at *
  generalize dg1 (x + y) = z1 at *
  generalize dg2 (x + y) = z2 at *
  generalize dg3 (x + y) = z3 at *
  generalize dg0 x = x0 at *
  generalize dg1 x = x1 at *
  generalize dg2 x = x2 at *
  generalize dg3 x = x3 at *
  generalize dg0 y = y0 at *
  generalize dg1 y = y1 at *
  generalize dg2 y = y2 at *
  generalize dg3 y = y3 at *
  have HP := hide hP
  clear hP hx hy hf
  obtain ⟨W3, hW3⟩ : ∃ W3, W3 = (((w.alloc (.cells #[.bool n1, .int .u64 x0, .int .u64 x1, .int .u64 x2, .int .u64 x3] 55)).alloc (.cells #[.bool n2, .int .u64 y0, .int .u64 y1, .int .u64 y2, .int .u64 y3] 55)).alloc (.cells #[.bool false, .int .u64 0, .int .u64 0, .int .u64 0, .int .u64 0] 55)) := ⟨_, rfl⟩
  have hbA : Below w.heap.size w W3 := by rw [hW3]; exact (((Below.refl _ w).alloc (Nat.le_refl _) _).alloc (by simp) _).alloc (by simp; omega) _
  obtain ⟨b0, b1, b2⟩ := blocks3 w (.cells #[.bool n1, .int .u64 x0, .int .u64 x1, .int .u64 x2, .int .u64 x3] 55) (.cells #[.bool n2, .int .u64 y0, .int .u64 y1, .int .u64 y2, .int .u64 y3] 55) (.cells #[.bool false, .int .u64 0, .int .u64 0, .int .u64 0, .int .u64 0] 55)
  rw [← hW3] at b0 b1 b2
  have hz3 : W3.heap.size = w.heap.size + 3 := by rw [hW3]; simp
  have HK := hide (show ∀ W, Below W3.heap.size W3 W → W.cell? ⟨w.heap.size, 0, none⟩ = some (.bool n1) ∧ W.cell? ⟨w.heap.size, 1, none⟩ = some (.int .u64 x0) ∧ W.cell? ⟨w.heap.size, 2, none⟩ = some (.int .u64 x1) ∧ W.cell? ⟨w.heap.size, 3, none⟩ = some (.int .u64 x2) ∧ W.cell? ⟨w.heap.size, 4, none⟩ = some (.int .u64 x3) ∧ W.cell? ⟨w.heap.size + 1, 0, none⟩ = some (.bool n2) ∧ W.cell? ⟨w.heap.size + 1, 1, none⟩ = some (.int .u64 y0) ∧ W.cell? ⟨w.heap.size + 1, 2, none⟩ = some (.int .u64 y1) ∧ W.cell? ⟨w.heap.size + 1, 3, none⟩ = some (.int .u64 y2) ∧ W.cell? ⟨w.heap.size + 1, 4, none⟩ = some (.int .u64 y3) from fun W h => by
    have g0 := (h.block w.heap.size (by omega)).trans b0
    have g1 := (h.block (w.heap.size + 1) (by omega)).trans b1
    exact ⟨Joins.cell_of_block g0 0, Joins.cell_of_block g0 1, Joins.cell_of_block g0 2, Joins.cell_of_block g0 3, Joins.cell_of_block g0 4, Joins.cell_of_block g1 0, Joins.cell_of_block g1 1, Joins.cell_of_block g1 2, Joins.cell_of_block g1 3, Joins.cell_of_block g1 4⟩)
  have HB2 := hide (show ∀ W, Below W3.heap.size W3 W → W.heap[w.heap.size + 1 + 1]? = some (.cells #[.bool false, .int .u64 0, .int .u64 0, .int .u64 0, .int .u64 0] 55 (0, 0)) from fun W h => (h.block (w.heap.size + 1 + 1) (by omega)).trans b2)
  have HBA := hide hbA
  obtain ⟨k0, k1, k2, k3, k4, k5, k6, k7, k8, k9⟩ := HK.out W3 (Below.refl _ _)
  rw [hW3] at k0 k1 k2 k3 k4 k5 k6 k7 k8 k9
  clear hbA b0 b1 b2
  go_enter Try.func23, Try.ntmps23
  go_upto_region 2 with (fail)
  rw [← hW3]
  clear k0 k1 k2 k3 k4 k5 k6 k7 k8 k9
  have hbL := Below.refl W3.heap.size W3
  have HBL := hide hbL
  have hWW : W3 = W3 := rfl
  clear hWW
  obtain ⟨k0, k1, k2, k3, k4, k5, k6, k7, k8, k9⟩ := HK.out W3 hbL
  have hBd : Below W3.heap.size W3 W3.drew := hbL.drew
  have hd := HK.out _ hBd
  obtain ⟨d0, d1, d2, d3, d4, d5, d6, d7, d8, d9⟩ := hd
  clear hW3 hbL
  go_wp2
  go_region_law
    ((go_simp; go_at_call 53; (with_reducible refine (HP.out _).mono ?_); rintro e W5 ⟨rfl, hb5⟩; have hB5 := hBd.trans (hb5.mono hBd.size); obtain ⟨m0, m1, m2, m3, m4, m5, m6, m7, m8, m9⟩ := HK.out W5 hB5; have hbx := HB2.out W5 hB5; have s0 := Joins.cell_of_block hbx 0; have s1 := Joins.cell_of_block hbx 1; have s2 := Joins.cell_of_block hbx 2; have s3 := Joins.cell_of_block hbx 3; have s4 := Joins.cell_of_block hbx 4; have u0 := Joins.unfrozen_of_block hbx 0; have u1 := Joins.unfrozen_of_block hbx 1; have u2 := Joins.unfrozen_of_block hbx 2; have u3 := Joins.unfrozen_of_block hbx 3; have u4 := Joins.unfrozen_of_block hbx 4; simp only [List.getElem?_toArray, List.getElem?_cons_zero, List.getElem?_cons_succ] at s0 s1 s2 s3 s4; dsimp only))
  all_goals
    have q1 := Joins.block_setCell (i := 4) (Joins.block_setCell (i := 3) (Joins.block_setCell (i := 2) (Joins.block_setCell (i := 1) (Joins.block_setCell (i := 0) (HB2.out W5 hB5) (.bool n1)) (.int .u64 z0)) (.int .u64 z1)) (.int .u64 z2)) (.int .u64 z3)
    have hbN : Below w.heap.size w (((((W5.setCell ⟨w.heap.size + 1 + 1, 0, none⟩ (.bool n1)).setCell ⟨w.heap.size + 1 + 1, 1, none⟩ (.int .u64 z0)).setCell ⟨w.heap.size + 1 + 1, 2, none⟩ (.int .u64 z1)).setCell ⟨w.heap.size + 1 + 1, 3, none⟩ (.int .u64 z2)).setCell ⟨w.heap.size + 1 + 1, 4, none⟩ (.int .u64 z3)) := below5 (HBA.out.trans (hB5.mono HBA.out.size)) (by omega) _ _ _ _ _
    clear m0 m1 m2 m3 m4 m5 m6 m7 m8 m9 s0 s1 s2 s3 s4 u0 u1 u2 u3 u4 hbx hB5 hb5 k0 k1 k2 k3 k4 k5 k6 k7 k8 k9 d0 d1 d2 d3 d4 d5 d6 d7 d8 d9 hBd
    generalize (((((W5.setCell ⟨w.heap.size + 1 + 1, 0, none⟩ (.bool n1)).setCell ⟨w.heap.size + 1 + 1, 1, none⟩ (.int .u64 z0)).setCell ⟨w.heap.size + 1 + 1, 2, none⟩ (.int .u64 z1)).setCell ⟨w.heap.size + 1 + 1, 3, none⟩ (.int .u64 z2)).setCell ⟨w.heap.size + 1 + 1, 4, none⟩ (.int .u64 z3)) = W6 at *
    have r0 : W6.cell? ⟨w.heap.size + 1 + 1, 0, none⟩ = some (.bool n1) := Joins.cell_of_block q1 0
    have r1 : W6.cell? ⟨w.heap.size + 1 + 1, 1, none⟩ = some (.int .u64 z0) := Joins.cell_of_block q1 1
    have r2 : W6.cell? ⟨w.heap.size + 1 + 1, 2, none⟩ = some (.int .u64 z1) := Joins.cell_of_block q1 2
    have r3 : W6.cell? ⟨w.heap.size + 1 + 1, 3, none⟩ = some (.int .u64 z2) := Joins.cell_of_block q1 3
    have r4 : W6.cell? ⟨w.heap.size + 1 + 1, 4, none⟩ = some (.int .u64 z3) := Joins.cell_of_block q1 4
    clear q1
    go_wp2
    refine bodyPost_ret (v := .agg #[.bool n1, .int .u64 z0, .int .u64 z1, .int .u64 z2, .int .u64 z3]) (by simp [results, Try.results23, go_sem, r0, r1, r2, r3, r4]) rfl ⟨rfl, hbN⟩

set_option maxRecDepth 100000 in
set_option maxHeartbeats 4000000 in
theorem wadd_lt (n1 n2 : Bool) (hnn : (n1 == n2) = false) (x y : Int) (hx : Fit x) (hy : Fit y) (hf : x < y) (w : World) :
    Calls Try.prog 23 #[wideV n1 x, wideV n2 y] w fun e w' => e = .returned (wideV n2 (y - x)) ∧ Below w.heap.size w w' := by
  have hP := fun W => minus_any y x hy hx (Int.le_of_lt hf) W
  have hL := fun W => less_any x y hx hy W
  rw [decide_eq_true hf] at hL
  have HL := hide hL
  unfold arrV at HL
  clear hL
  unfold wideV
  unfold arrV at *
  generalize dg0 (y - x) = z0 at *
  generalize dg1 (y - x) = z1 at *
  generalize dg2 (y - x) = z2 at *
  generalize dg3 (y - x) = z3 at *
  generalize dg0 x = x0 at *
  generalize dg1 x = x1 at *
  generalize dg2 x = x2 at *
  generalize dg3 x = x3 at *
  generalize dg0 y = y0 at *
  generalize dg1 y = y1 at *
  generalize dg2 y = y2 at *
  generalize dg3 y = y3 at *
  have HP := hide hP
  clear hP hx hy hf
  obtain ⟨W3, hW3⟩ : ∃ W3, W3 = (((w.alloc (.cells #[.bool n1, .int .u64 x0, .int .u64 x1, .int .u64 x2, .int .u64 x3] 55)).alloc (.cells #[.bool n2, .int .u64 y0, .int .u64 y1, .int .u64 y2, .int .u64 y3] 55)).alloc (.cells #[.bool false, .int .u64 0, .int .u64 0, .int .u64 0, .int .u64 0] 55)) := ⟨_, rfl⟩
  have hbA : Below w.heap.size w W3 := by rw [hW3]; exact (((Below.refl _ w).alloc (Nat.le_refl _) _).alloc (by simp) _).alloc (by simp; omega) _
  obtain ⟨b0, b1, b2⟩ := blocks3 w (.cells #[.bool n1, .int .u64 x0, .int .u64 x1, .int .u64 x2, .int .u64 x3] 55) (.cells #[.bool n2, .int .u64 y0, .int .u64 y1, .int .u64 y2, .int .u64 y3] 55) (.cells #[.bool false, .int .u64 0, .int .u64 0, .int .u64 0, .int .u64 0] 55)
  rw [← hW3] at b0 b1 b2
  have hz3 : W3.heap.size = w.heap.size + 3 := by rw [hW3]; simp
  have HK := hide (show ∀ W, Below W3.heap.size W3 W → W.cell? ⟨w.heap.size, 0, none⟩ = some (.bool n1) ∧ W.cell? ⟨w.heap.size, 1, none⟩ = some (.int .u64 x0) ∧ W.cell? ⟨w.heap.size, 2, none⟩ = some (.int .u64 x1) ∧ W.cell? ⟨w.heap.size, 3, none⟩ = some (.int .u64 x2) ∧ W.cell? ⟨w.heap.size, 4, none⟩ = some (.int .u64 x3) ∧ W.cell? ⟨w.heap.size + 1, 0, none⟩ = some (.bool n2) ∧ W.cell? ⟨w.heap.size + 1, 1, none⟩ = some (.int .u64 y0) ∧ W.cell? ⟨w.heap.size + 1, 2, none⟩ = some (.int .u64 y1) ∧ W.cell? ⟨w.heap.size + 1, 3, none⟩ = some (.int .u64 y2) ∧ W.cell? ⟨w.heap.size + 1, 4, none⟩ = some (.int .u64 y3) from fun W h => by
    have g0 := (h.block w.heap.size (by omega)).trans b0
    have g1 := (h.block (w.heap.size + 1) (by omega)).trans b1
    exact ⟨Joins.cell_of_block g0 0, Joins.cell_of_block g0 1, Joins.cell_of_block g0 2, Joins.cell_of_block g0 3, Joins.cell_of_block g0 4, Joins.cell_of_block g1 0, Joins.cell_of_block g1 1, Joins.cell_of_block g1 2, Joins.cell_of_block g1 3, Joins.cell_of_block g1 4⟩)
  have HB2 := hide (show ∀ W, Below W3.heap.size W3 W → W.heap[w.heap.size + 1 + 1]? = some (.cells #[.bool false, .int .u64 0, .int .u64 0, .int .u64 0, .int .u64 0] 55 (0, 0)) from fun W h => (h.block (w.heap.size + 1 + 1) (by omega)).trans b2)
  have HBA := hide hbA
  obtain ⟨k0, k1, k2, k3, k4, k5, k6, k7, k8, k9⟩ := HK.out W3 (Below.refl _ _)
  rw [hW3] at k0 k1 k2 k3 k4 k5 k6 k7 k8 k9
  clear hbA b0 b1 b2
  go_enter Try.func23, Try.ntmps23
  go_wp2_with (go_at_call 54; refine halted ?_)
  refine go_on ?_
  rw [← hW3]
  clear k0 k1 k2 k3 k4 k5 k6 k7 k8 k9
  refine (HL.out W3).mono ?_
  rintro e W4 ⟨rfl, hbL⟩
  have HBL := hide hbL
  obtain ⟨k0, k1, k2, k3, k4, k5, k6, k7, k8, k9⟩ := HK.out W4 hbL
  have hBd : Below W3.heap.size W3 W4.drew := hbL.drew
  have hd := HK.out _ hBd
  obtain ⟨d0, d1, d2, d3, d4, d5, d6, d7, d8, d9⟩ := hd
  clear hW3 hbL
  go_wp2
  go_region_law
    ((go_simp; go_at_call 55; (with_reducible refine (HP.out _).mono ?_); rintro e W5 ⟨rfl, hb5⟩; have hB5 := hBd.trans (hb5.mono hBd.size); obtain ⟨m0, m1, m2, m3, m4, m5, m6, m7, m8, m9⟩ := HK.out W5 hB5; have hbx := HB2.out W5 hB5; have s0 := Joins.cell_of_block hbx 0; have s1 := Joins.cell_of_block hbx 1; have s2 := Joins.cell_of_block hbx 2; have s3 := Joins.cell_of_block hbx 3; have s4 := Joins.cell_of_block hbx 4; have u0 := Joins.unfrozen_of_block hbx 0; have u1 := Joins.unfrozen_of_block hbx 1; have u2 := Joins.unfrozen_of_block hbx 2; have u3 := Joins.unfrozen_of_block hbx 3; have u4 := Joins.unfrozen_of_block hbx 4; simp only [List.getElem?_toArray, List.getElem?_cons_zero, List.getElem?_cons_succ] at s0 s1 s2 s3 s4; dsimp only))
  all_goals
    have q1 := Joins.block_setCell (i := 4) (Joins.block_setCell (i := 3) (Joins.block_setCell (i := 2) (Joins.block_setCell (i := 1) (Joins.block_setCell (i := 0) (HB2.out W5 hB5) (.bool n2)) (.int .u64 z0)) (.int .u64 z1)) (.int .u64 z2)) (.int .u64 z3)
    have hbN : Below w.heap.size w (((((W5.setCell ⟨w.heap.size + 1 + 1, 0, none⟩ (.bool n2)).setCell ⟨w.heap.size + 1 + 1, 1, none⟩ (.int .u64 z0)).setCell ⟨w.heap.size + 1 + 1, 2, none⟩ (.int .u64 z1)).setCell ⟨w.heap.size + 1 + 1, 3, none⟩ (.int .u64 z2)).setCell ⟨w.heap.size + 1 + 1, 4, none⟩ (.int .u64 z3)) := below5 (HBA.out.trans (hB5.mono HBA.out.size)) (by omega) _ _ _ _ _
    clear m0 m1 m2 m3 m4 m5 m6 m7 m8 m9 s0 s1 s2 s3 s4 u0 u1 u2 u3 u4 hbx hB5 hb5 k0 k1 k2 k3 k4 k5 k6 k7 k8 k9 d0 d1 d2 d3 d4 d5 d6 d7 d8 d9 hBd
    generalize (((((W5.setCell ⟨w.heap.size + 1 + 1, 0, none⟩ (.bool n2)).setCell ⟨w.heap.size + 1 + 1, 1, none⟩ (.int .u64 z0)).setCell ⟨w.heap.size + 1 + 1, 2, none⟩ (.int .u64 z1)).setCell ⟨w.heap.size + 1 + 1, 3, none⟩ (.int .u64 z2)).setCell ⟨w.heap.size + 1 + 1, 4, none⟩ (.int .u64 z3)) = W6 at *
    have r0 : W6.cell? ⟨w.heap.size + 1 + 1, 0, none⟩ = some (.bool n2) := Joins.cell_of_block q1 0
    have r1 : W6.cell? ⟨w.heap.size + 1 + 1, 1, none⟩ = some (.int .u64 z0) := Joins.cell_of_block q1 1
    have r2 : W6.cell? ⟨w.heap.size + 1 + 1, 2, none⟩ = some (.int .u64 z1) := Joins.cell_of_block q1 2
    have r3 : W6.cell? ⟨w.heap.size + 1 + 1, 3, none⟩ = some (.int .u64 z2) := Joins.cell_of_block q1 3
    have r4 : W6.cell? ⟨w.heap.size + 1 + 1, 4, none⟩ = some (.int .u64 z3) := Joins.cell_of_block q1 4
    clear q1
    go_wp2
    refine bodyPost_ret (v := .agg #[.bool n2, .int .u64 z0, .int .u64 z1, .int .u64 z2, .int .u64 z3]) (by simp [results, Try.results23, go_sem, r0, r1, r2, r3, r4]) rfl ⟨rfl, hbN⟩

set_option maxRecDepth 100000 in
set_option maxHeartbeats 4000000 in
theorem wadd_ge (n1 n2 : Bool) (hnn : (n1 == n2) = false) (x y : Int) (hx : Fit x) (hy : Fit y) (hf : ¬ x < y) (w : World) :
    Calls Try.prog 23 #[wideV n1 x, wideV n2 y] w fun e w' => e = .returned (wideV n1 (x - y)) ∧ Below w.heap.size w w' := by
  have hP := fun W => minus_any x y hx hy (by omega) W
  have hL := fun W => less_any x y hx hy W
  rw [decide_eq_false hf] at hL
  have HL := hide hL
  unfold arrV at HL
  clear hL
  unfold wideV
  unfold arrV at *
  generalize dg0 (x - y) = z0 at *
  generalize dg1 (x - y) = z1 at *
  generalize dg2 (x - y) = z2 at *
  generalize dg3 (x - y) = z3 at *
  generalize dg0 x = x0 at *
  generalize dg1 x = x1 at *
  generalize dg2 x = x2 at *
  generalize dg3 x = x3 at *
  generalize dg0 y = y0 at *
  generalize dg1 y = y1 at *
  generalize dg2 y = y2 at *
  generalize dg3 y = y3 at *
  have HP := hide hP
  clear hP hx hy hf
  obtain ⟨W3, hW3⟩ : ∃ W3, W3 = (((w.alloc (.cells #[.bool n1, .int .u64 x0, .int .u64 x1, .int .u64 x2, .int .u64 x3] 55)).alloc (.cells #[.bool n2, .int .u64 y0, .int .u64 y1, .int .u64 y2, .int .u64 y3] 55)).alloc (.cells #[.bool false, .int .u64 0, .int .u64 0, .int .u64 0, .int .u64 0] 55)) := ⟨_, rfl⟩
  have hbA : Below w.heap.size w W3 := by rw [hW3]; exact (((Below.refl _ w).alloc (Nat.le_refl _) _).alloc (by simp) _).alloc (by simp; omega) _
  obtain ⟨b0, b1, b2⟩ := blocks3 w (.cells #[.bool n1, .int .u64 x0, .int .u64 x1, .int .u64 x2, .int .u64 x3] 55) (.cells #[.bool n2, .int .u64 y0, .int .u64 y1, .int .u64 y2, .int .u64 y3] 55) (.cells #[.bool false, .int .u64 0, .int .u64 0, .int .u64 0, .int .u64 0] 55)
  rw [← hW3] at b0 b1 b2
  have hz3 : W3.heap.size = w.heap.size + 3 := by rw [hW3]; simp
  have HK := hide (show ∀ W, Below W3.heap.size W3 W → W.cell? ⟨w.heap.size, 0, none⟩ = some (.bool n1) ∧ W.cell? ⟨w.heap.size, 1, none⟩ = some (.int .u64 x0) ∧ W.cell? ⟨w.heap.size, 2, none⟩ = some (.int .u64 x1) ∧ W.cell? ⟨w.heap.size, 3, none⟩ = some (.int .u64 x2) ∧ W.cell? ⟨w.heap.size, 4, none⟩ = some (.int .u64 x3) ∧ W.cell? ⟨w.heap.size + 1, 0, none⟩ = some (.bool n2) ∧ W.cell? ⟨w.heap.size + 1, 1, none⟩ = some (.int .u64 y0) ∧ W.cell? ⟨w.heap.size + 1, 2, none⟩ = some (.int .u64 y1) ∧ W.cell? ⟨w.heap.size + 1, 3, none⟩ = some (.int .u64 y2) ∧ W.cell? ⟨w.heap.size + 1, 4, none⟩ = some (.int .u64 y3) from fun W h => by
    have g0 := (h.block w.heap.size (by omega)).trans b0
    have g1 := (h.block (w.heap.size + 1) (by omega)).trans b1
    exact ⟨Joins.cell_of_block g0 0, Joins.cell_of_block g0 1, Joins.cell_of_block g0 2, Joins.cell_of_block g0 3, Joins.cell_of_block g0 4, Joins.cell_of_block g1 0, Joins.cell_of_block g1 1, Joins.cell_of_block g1 2, Joins.cell_of_block g1 3, Joins.cell_of_block g1 4⟩)
  have HB2 := hide (show ∀ W, Below W3.heap.size W3 W → W.heap[w.heap.size + 1 + 1]? = some (.cells #[.bool false, .int .u64 0, .int .u64 0, .int .u64 0, .int .u64 0] 55 (0, 0)) from fun W h => (h.block (w.heap.size + 1 + 1) (by omega)).trans b2)
  have HBA := hide hbA
  obtain ⟨k0, k1, k2, k3, k4, k5, k6, k7, k8, k9⟩ := HK.out W3 (Below.refl _ _)
  rw [hW3] at k0 k1 k2 k3 k4 k5 k6 k7 k8 k9
  clear hbA b0 b1 b2
  go_enter Try.func23, Try.ntmps23
  go_wp2_with (go_at_call 54; refine halted ?_)
  refine go_on ?_
  rw [← hW3]
  clear k0 k1 k2 k3 k4 k5 k6 k7 k8 k9
  refine (HL.out W3).mono ?_
  rintro e W4 ⟨rfl, hbL⟩
  have HBL := hide hbL
  obtain ⟨k0, k1, k2, k3, k4, k5, k6, k7, k8, k9⟩ := HK.out W4 hbL
  have hBd : Below W3.heap.size W3 W4.drew := hbL.drew
  have hd := HK.out _ hBd
  obtain ⟨d0, d1, d2, d3, d4, d5, d6, d7, d8, d9⟩ := hd
  clear hW3 hbL
  go_wp2
  go_region_law
    ((go_simp; go_at_call 55; (with_reducible refine (HP.out _).mono ?_); rintro e W5 ⟨rfl, hb5⟩; have hB5 := hBd.trans (hb5.mono hBd.size); obtain ⟨m0, m1, m2, m3, m4, m5, m6, m7, m8, m9⟩ := HK.out W5 hB5; have hbx := HB2.out W5 hB5; have s0 := Joins.cell_of_block hbx 0; have s1 := Joins.cell_of_block hbx 1; have s2 := Joins.cell_of_block hbx 2; have s3 := Joins.cell_of_block hbx 3; have s4 := Joins.cell_of_block hbx 4; have u0 := Joins.unfrozen_of_block hbx 0; have u1 := Joins.unfrozen_of_block hbx 1; have u2 := Joins.unfrozen_of_block hbx 2; have u3 := Joins.unfrozen_of_block hbx 3; have u4 := Joins.unfrozen_of_block hbx 4; simp only [List.getElem?_toArray, List.getElem?_cons_zero, List.getElem?_cons_succ] at s0 s1 s2 s3 s4; dsimp only))
  all_goals
    have q1 := Joins.block_setCell (i := 4) (Joins.block_setCell (i := 3) (Joins.block_setCell (i := 2) (Joins.block_setCell (i := 1) (Joins.block_setCell (i := 0) (HB2.out W5 hB5) (.bool n1)) (.int .u64 z0)) (.int .u64 z1)) (.int .u64 z2)) (.int .u64 z3)
    have hbN : Below w.heap.size w (((((W5.setCell ⟨w.heap.size + 1 + 1, 0, none⟩ (.bool n1)).setCell ⟨w.heap.size + 1 + 1, 1, none⟩ (.int .u64 z0)).setCell ⟨w.heap.size + 1 + 1, 2, none⟩ (.int .u64 z1)).setCell ⟨w.heap.size + 1 + 1, 3, none⟩ (.int .u64 z2)).setCell ⟨w.heap.size + 1 + 1, 4, none⟩ (.int .u64 z3)) := below5 (HBA.out.trans (hB5.mono HBA.out.size)) (by omega) _ _ _ _ _
    clear m0 m1 m2 m3 m4 m5 m6 m7 m8 m9 s0 s1 s2 s3 s4 u0 u1 u2 u3 u4 hbx hB5 hb5 k0 k1 k2 k3 k4 k5 k6 k7 k8 k9 d0 d1 d2 d3 d4 d5 d6 d7 d8 d9 hBd
    generalize (((((W5.setCell ⟨w.heap.size + 1 + 1, 0, none⟩ (.bool n1)).setCell ⟨w.heap.size + 1 + 1, 1, none⟩ (.int .u64 z0)).setCell ⟨w.heap.size + 1 + 1, 2, none⟩ (.int .u64 z1)).setCell ⟨w.heap.size + 1 + 1, 3, none⟩ (.int .u64 z2)).setCell ⟨w.heap.size + 1 + 1, 4, none⟩ (.int .u64 z3)) = W6 at *
    have r0 : W6.cell? ⟨w.heap.size + 1 + 1, 0, none⟩ = some (.bool n1) := Joins.cell_of_block q1 0
    have r1 : W6.cell? ⟨w.heap.size + 1 + 1, 1, none⟩ = some (.int .u64 z0) := Joins.cell_of_block q1 1
    have r2 : W6.cell? ⟨w.heap.size + 1 + 1, 2, none⟩ = some (.int .u64 z1) := Joins.cell_of_block q1 2
    have r3 : W6.cell? ⟨w.heap.size + 1 + 1, 3, none⟩ = some (.int .u64 z2) := Joins.cell_of_block q1 3
    have r4 : W6.cell? ⟨w.heap.size + 1 + 1, 4, none⟩ = some (.int .u64 z3) := Joins.cell_of_block q1 4
    clear q1
    go_wp2
    refine bodyPost_ret (v := .agg #[.bool n1, .int .u64 z0, .int .u64 z1, .int .u64 z2, .int .u64 z3]) (by simp [results, Try.results23, go_sem, r0, r1, r2, r3, r4]) rfl ⟨rfl, hbN⟩
end Go.Proofs.Ytibanikfalfmcaa
