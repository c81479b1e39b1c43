/-
  The reference's wide numbers: the sum of two.
-/
import Derived.Test.YtedaajilmeplnaaWideTold
import Derived.Deep.RegionHeld3
import Derived.Deep.Cut
import Derived.Lib.SmallJoins
namespace Go.Proofs.Ytedaajilmeplnaa
open Go.RowKit
set_option linter.unusedVariables false

def addN (n1 : Bool) (x : Int) (n2 : Bool) (y : Int) : Bool × Int := if n1 = n2 then (n1, x + y) else if x < y then (n2, y - x) else (n1, x - y)

theorem blocks3 (w : World) (o0 o1 o2 : Obj) :
  (((w.alloc o0).alloc o1).alloc o2).heap[w.heap.size]? = some o0 ∧
  (((w.alloc o0).alloc o1).alloc o2).heap[w.heap.size + 1]? = some o1 ∧
  (((w.alloc o0).alloc o1).alloc o2).heap[w.heap.size + 1 + 1]? = some o2 := by
  have h0 := heap_alloc_new w o0
  have h1 := heap_alloc_new (w.alloc o0) o1
  have h2 := heap_alloc_new ((w.alloc o0).alloc o1) o2
  simp only [World.size_alloc] at h1 h2
  refine ⟨?_, ?_, h2⟩
  · exact (Below.heap_alloc _ _ _ (by simp only [World.size_alloc]; omega)).trans ((Below.heap_alloc _ _ _ (by simp only [World.size_alloc]; omega)).trans h0)
  · exact (Below.heap_alloc _ _ _ (by simp only [World.size_alloc]; omega)).trans h1

theorem le_set {a : Nat} {w : World} {p : Addr} {v : Value} (h : a ≤ w.heap.size) : a ≤ (w.setCell p v).heap.size := by
  rw [show (w.setCell p v).heap.size = w.heap.size from Array.size_modify]; exact h
theorem below5 {B : Nat} {a w : World} (h : Below B a w) {q : Nat} (hq : B ≤ q) (u0 u1 u2 u3 u4 : Value) :
    Below B a (((((w.setCell ⟨q, 0, none⟩ u0).setCell ⟨q, 1, none⟩ u1).setCell ⟨q, 2, none⟩ u2).setCell ⟨q, 3, none⟩ u3).setCell ⟨q, 4, none⟩ u4) :=
  ((((h.setCell (p := ⟨q, 0, none⟩) hq _).setCell (p := ⟨q, 1, none⟩) hq _).setCell (p := ⟨q, 2, none⟩) hq _).setCell (p := ⟨q, 3, none⟩) hq _).setCell (p := ⟨q, 4, none⟩) hq _
theorem keepB {a b c1 c2 c3 c4 c5 c6 c7 c8 c9 c10 d : Prop} (h : a ∧ b ∧ c1 ∧ c2 ∧ c3 ∧ c4 ∧ c5 ∧ c6 ∧ c7 ∧ c8 ∧ c9 ∧ c10 ∧ d) : a ∧ b ∧ c1 ∧ c2 ∧ c3 ∧ c4 ∧ c5 ∧ c6 ∧ c7 ∧ c8 ∧ c9 ∧ c10 :=
  ⟨h.1, h.2.1, h.2.2.1, h.2.2.2.1, h.2.2.2.2.1, h.2.2.2.2.2.1, h.2.2.2.2.2.2.1, h.2.2.2.2.2.2.2.1, h.2.2.2.2.2.2.2.2.1, h.2.2.2.2.2.2.2.2.2.1, h.2.2.2.2.2.2.2.2.2.2.1, h.2.2.2.2.2.2.2.2.2.2.2.1⟩

set_option maxRecDepth 100000 in
set_option maxHeartbeats 4000000 in
theorem add_same (n : Bool) (x y : Int) (hx : Fit x) (hy : Fit y) (hf : Fit (x + y)) (w : World) :
    Calls Try.prog 24 #[wideV n x, wideV n y] w fun e w' => e = .returned (wideV n (x + y)) ∧ Below w.heap.size w w' := by
  have hP := fun W => plus_any x y hx hy hf W
  unfold wideV
  unfold arrV at *
  generalize dg0 (x + y) = z0 at *
  generalize dg1 (x + y) = z1 at *
  generalize dg2 (x + y) = z2 at *
  generalize dg3 (x + y) = z3 at *
  generalize dg0 x = x0 at *
  generalize dg1 x = x1 at *
  generalize dg2 x = x2 at *
  generalize dg3 x = x3 at *
  generalize dg0 y = y0 at *
  generalize dg1 y = y1 at *
  generalize dg2 y = y2 at *
  generalize dg3 y = y3 at *
  have HP := hide hP
  clear hP hx hy hf
  have hK : ∀ W, w.heap.size + 1 + 1 + 1 ≤ W.heap.size → Below (w.heap.size + 1 + 1) (((w.alloc (.cells #[.bool n, .int .u64 x0, .int .u64 x1, .int .u64 x2, .int .u64 x3] 49)).alloc (.cells #[.bool n, .int .u64 y0, .int .u64 y1, .int .u64 y2, .int .u64 y3] 49)).alloc (.cells #[.bool false, .int .u64 0, .int .u64 0, .int .u64 0, .int .u64 0] 49)) W →
      Below (w.heap.size + 1 + 1) (((w.alloc (.cells #[.bool n, .int .u64 x0, .int .u64 x1, .int .u64 x2, .int .u64 x3] 49)).alloc (.cells #[.bool n, .int .u64 y0, .int .u64 y1, .int .u64 y2, .int .u64 y3] 49)).alloc (.cells #[.bool false, .int .u64 0, .int .u64 0, .int .u64 0, .int .u64 0] 49)) W ∧
      w.heap.size + 1 + 1 + 1 ≤ W.heap.size ∧ W.cell? ⟨w.heap.size, 0, none⟩ = some (.bool n) ∧ W.cell? ⟨w.heap.size, 1, none⟩ = some (.int .u64 x0) ∧ W.cell? ⟨w.heap.size, 2, none⟩ = some (.int .u64 x1) ∧ W.cell? ⟨w.heap.size, 3, none⟩ = some (.int .u64 x2) ∧ W.cell? ⟨w.heap.size, 4, none⟩ = some (.int .u64 x3) ∧ W.cell? ⟨w.heap.size + 1, 0, none⟩ = some (.bool n) ∧ W.cell? ⟨w.heap.size + 1, 1, none⟩ = some (.int .u64 y0) ∧ W.cell? ⟨w.heap.size + 1, 2, none⟩ = some (.int .u64 y1) ∧ W.cell? ⟨w.heap.size + 1, 3, none⟩ = some (.int .u64 y2) ∧ W.cell? ⟨w.heap.size + 1, 4, none⟩ = some (.int .u64 y3) := by
    intro W hz h
    obtain ⟨b0, b1, b2⟩ := blocks3 w (.cells #[.bool n, .int .u64 x0, .int .u64 x1, .int .u64 x2, .int .u64 x3] 49) (.cells #[.bool n, .int .u64 y0, .int .u64 y1, .int .u64 y2, .int .u64 y3] 49) (.cells #[.bool false, .int .u64 0, .int .u64 0, .int .u64 0, .int .u64 0] 49)
    have g0 := (h.block w.heap.size (by omega)).trans b0
    have g1 := (h.block (w.heap.size + 1) (by omega)).trans b1
    exact ⟨h, hz, Joins.cell_of_block g0 0, Joins.cell_of_block g0 1, Joins.cell_of_block g0 2, Joins.cell_of_block g0 3, Joins.cell_of_block g0 4, Joins.cell_of_block g1 0, Joins.cell_of_block g1 1, Joins.cell_of_block g1 2, Joins.cell_of_block g1 3, Joins.cell_of_block g1 4⟩
  have hbA : Below w.heap.size w (((w.alloc (.cells #[.bool n, .int .u64 x0, .int .u64 x1, .int .u64 x2, .int .u64 x3] 49)).alloc (.cells #[.bool n, .int .u64 y0, .int .u64 y1, .int .u64 y2, .int .u64 y3] 49)).alloc (.cells #[.bool false, .int .u64 0, .int .u64 0, .int .u64 0, .int .u64 0] 49)) :=
    (((Below.refl _ w).alloc (Nat.le_refl _) _).alloc (by simp) _).alloc (by simp; omega) _
  go_enter Try.func24, Try.ntmps24
  have hnn : (n == n) = true := by simp
  go_upto_region 2 with (fail)
  have hsz : w.heap.size + 1 + 1 + 1 ≤ (((w.alloc (.cells #[.bool n, .int .u64 x0, .int .u64 x1, .int .u64 x2, .int .u64 x3] 49)).alloc (.cells #[.bool n, .int .u64 y0, .int .u64 y1, .int .u64 y2, .int .u64 y3] 49)).alloc (.cells #[.bool false, .int .u64 0, .int .u64 0, .int .u64 0, .int .u64 0] 49)).heap.size := by simp
  have hbox3 := (blocks3 w (.cells #[.bool n, .int .u64 x0, .int .u64 x1, .int .u64 x2, .int .u64 x3] 49) (.cells #[.bool n, .int .u64 y0, .int .u64 y1, .int .u64 y2, .int .u64 y3] 49) (.cells #[.bool false, .int .u64 0, .int .u64 0, .int .u64 0, .int .u64 0] 49)).2.2
  generalize hW3 : (((w.alloc (.cells #[.bool n, .int .u64 x0, .int .u64 x1, .int .u64 x2, .int .u64 x3] 49)).alloc (.cells #[.bool n, .int .u64 y0, .int .u64 y1, .int .u64 y2, .int .u64 y3] 49)).alloc (.cells #[.bool false, .int .u64 0, .int .u64 0, .int .u64 0, .int .u64 0] 49)) = W3 at *
  clear hW3
  have HBOX := hide hbox3
  clear hbox3
  have HK := hide hK
  clear hK
  go_region_held3 (fun W => Below (w.heap.size + 1 + 1) W3 W ∧ w.heap.size + 1 + 1 + 1 ≤ W.heap.size ∧ W.cell? ⟨w.heap.size, 0, none⟩ = some (.bool n) ∧ W.cell? ⟨w.heap.size, 1, none⟩ = some (.int .u64 x0) ∧ W.cell? ⟨w.heap.size, 2, none⟩ = some (.int .u64 x1) ∧ W.cell? ⟨w.heap.size, 3, none⟩ = some (.int .u64 x2) ∧ W.cell? ⟨w.heap.size, 4, none⟩ = some (.int .u64 x3) ∧ W.cell? ⟨w.heap.size + 1, 0, none⟩ = some (.bool n) ∧ W.cell? ⟨w.heap.size + 1, 1, none⟩ = some (.int .u64 y0) ∧ W.cell? ⟨w.heap.size + 1, 2, none⟩ = some (.int .u64 y1) ∧ W.cell? ⟨w.heap.size + 1, 3, none⟩ = some (.int .u64 y2) ∧ W.cell? ⟨w.heap.size + 1, 4, none⟩ = some (.int .u64 y3))
    ((first | (with_reducible assumption) | ((with_reducible refine HK.out _ ?_ ?_) <;> repeat' (first | (with_reducible assumption) | (with_reducible exact Below.refl _ _) | (with_reducible refine Below.drew ?_) | (with_reducible refine Below.setCell ?_ ?_ _) | (with_reducible exact Nat.le_refl _) | exact hsz | (with_reducible refine le_set ?_) | (show _ ≤ _; omega)))))
    (first | (go_at_call 34; (with_reducible refine (HP.out _).mono ?_); rintro e w4 ⟨rfl, hb4⟩; have hz4 : w.heap.size + 1 + 1 + 1 ≤ w4.heap.size := Nat.le_trans hsz hb4.size; have hB4 : Below (w.heap.size + 1 + 1) W3 w4 := ((Below.refl _ _).drew).trans (hb4.mono (Nat.le_trans (by omega) hsz)); have hbox := (hb4.block (w.heap.size + 1 + 1) (Nat.lt_of_lt_of_le (by omega) hsz)).trans HBOX.out; have s0 := Joins.cell_of_block hbox 0; have u0 := Joins.unfrozen_of_block hbox 0; have s1 := Joins.cell_of_block hbox 1; have u1 := Joins.unfrozen_of_block hbox 1; have s2 := Joins.cell_of_block hbox 2; have u2 := Joins.unfrozen_of_block hbox 2; have s3 := Joins.cell_of_block hbox 3; have u3 := Joins.unfrozen_of_block hbox 3; have s4 := Joins.cell_of_block hbox 4; have u4 := Joins.unfrozen_of_block hbox 4; simp only [List.getElem?_toArray, List.getElem?_cons_zero, List.getElem?_cons_succ] at s0 s1 s2 s3 s4; have HB4 := hide hbox; clear hbox))
  have q1 := Joins.block_setCell (i := 4) (Joins.block_setCell (i := 3) (Joins.block_setCell (i := 2) (Joins.block_setCell (i := 1) (Joins.block_setCell (i := 0) HB4.out (.bool n)) (.int .u64 z0)) (.int .u64 z1)) (.int .u64 z2)) (.int .u64 z3)
  have hbN : Below w.heap.size w (((((w4.setCell ⟨w.heap.size + 1 + 1, 0, none⟩ (.bool n)).setCell ⟨w.heap.size + 1 + 1, 1, none⟩ (.int .u64 z0)).setCell ⟨w.heap.size + 1 + 1, 2, none⟩ (.int .u64 z1)).setCell ⟨w.heap.size + 1 + 1, 3, none⟩ (.int .u64 z2)).setCell ⟨w.heap.size + 1 + 1, 4, none⟩ (.int .u64 z3)) :=
    below5 (hbA.trans (hB4.mono (by omega))) (by omega) _ _ _ _ _
  generalize (((((w4.setCell ⟨w.heap.size + 1 + 1, 0, none⟩ (.bool n)).setCell ⟨w.heap.size + 1 + 1, 1, none⟩ (.int .u64 z0)).setCell ⟨w.heap.size + 1 + 1, 2, none⟩ (.int .u64 z1)).setCell ⟨w.heap.size + 1 + 1, 3, none⟩ (.int .u64 z2)).setCell ⟨w.heap.size + 1 + 1, 4, none⟩ (.int .u64 z3)) = W5 at *
  have r0 : W5.cell? ⟨w.heap.size + 1 + 1, 0, none⟩ = some (.bool n) := Joins.cell_of_block q1 0
  have r1 : W5.cell? ⟨w.heap.size + 1 + 1, 1, none⟩ = some (.int .u64 z0) := Joins.cell_of_block q1 1
  have r2 : W5.cell? ⟨w.heap.size + 1 + 1, 2, none⟩ = some (.int .u64 z1) := Joins.cell_of_block q1 2
  have r3 : W5.cell? ⟨w.heap.size + 1 + 1, 3, none⟩ = some (.int .u64 z2) := Joins.cell_of_block q1 3
  have r4 : W5.cell? ⟨w.heap.size + 1 + 1, 4, none⟩ = some (.int .u64 z3) := Joins.cell_of_block q1 4
  clear q1 s0 s1 s2 s3 s4 u0 u1 u2 u3 u4 hB4 HB4 hz4 hb4 HK HP hsz HBOX
  go_wp2
  refine bodyPost_ret (v := .agg #[(.bool n), .int .u64 z0, .int .u64 z1, .int .u64 z2, .int .u64 z3]) (by simp [results, Try.results24, go_sem, r0, r1, r2, r3, r4]) rfl ⟨rfl, hbN⟩
end Go.Proofs.Ytedaajilmeplnaa
