/-
  RatesTaxes, walked.
-/
import Derived.Test.YtedaajilmeplnaaRateFn
import Derived.Test.YtedaajilmeplnaaRises15
import Derived.Deep.RegionHeld3
namespace Go.Proofs.Ytedaajilmeplnaa
open Go.RowKit
set_option linter.unusedVariables false

set_option maxRecDepth 100000 in
set_option maxHeartbeats 4000000 in
theorem ratesTaxes_any (s : Sch) (A : Option Addr) (c : Nat) (x : Int) (w : World) (hr : Row w w.heap.size A (brCells s.brs)) (hl : s.brs.length ≤ 9223372036854775807) :
    Calls Try.prog 6 #[schV s A c, .int .i64 x] w fun e w' => e = .returned (.bool true) ∧ Below w.heap.size w w' := by
  have E1 := hide fun W (hb : Below w.heap.size w W) => tax_any s A c x W ((hr.below hb).more hb.size) hl
  have E2 := hide fun W (hb : Below w.heap.size w W) => rtax_any s A c x W ((hr.below hb).more hb.size) hl
  have E3 := hide fun W (hb : Below w.heap.size w W) => rate_any s A c x W ((hr.below hb).more hb.size) hl
  have E4 := hide fun W (hb : Below w.heap.size w W) => rrate_any s A c x W ((hr.below hb).more hb.size) hl
  have E5 := hide fun W (hb : Below w.heap.size w W) => right_any s A c W ((hr.below hb).more hb.size) hl
  have E6 := hide fun W (hb : Below w.heap.size w W) => rright_any s A c W ((hr.below hb).more hb.size) hl
  have hb0 : Below w.heap.size w (w.alloc (.cells #[.slice A s.brs.length c, .int .i64 s.ded, .int .i64 s.cred, .int .i64 s.lbp, .int .i64 s.lmost, .int .i64 s.lleast] 24)) := (Below.refl w.heap.size w).alloc (Nat.le_refl _) _
  generalize taxR s x = r1 at *
  generalize rateR s x = r2 at *
  generalize s.right = r3 at *
  obtain ⟨n1, e1⟩ := r1
  obtain ⟨n2, e2⟩ := r2
  dsimp only at *
  clear hr
  unfold schV at *
  go_enter Try.func6, Try.ntmps6
  go_wp2_with (go_at_call 9; refine halted ?_)
  refine go_on ?_
  refine (awake_any _).mono ?_
  rintro e w1 ⟨rfl, hb1⟩
  have hs1 : w.heap.size < w1.heap.size := by have := hb1.size; simp at this; omega
  obtain ⟨q0, q1, q2, q3, q4, q5⟩ := boxed_cells (w' := w1) (hb1.mono (by simp))
  have hbw := hb0.trans (hb1.mono (by simp))
  by_cases h1000 : 1000 < s.brs.length
  · go_wp2
    go_ret
    exact ⟨rfl, hbw⟩
  have hK : ∀ W, Below (w.heap.size + 1) w1 W → W.cell? ⟨w.heap.size, 0, none⟩ = some (.slice A s.brs.length c) ∧ W.cell? ⟨w.heap.size, 1, none⟩ = some (.int .i64 s.ded) ∧ W.cell? ⟨w.heap.size, 2, none⟩ = some (.int .i64 s.cred) ∧ W.cell? ⟨w.heap.size, 3, none⟩ = some (.int .i64 s.lbp) ∧ W.cell? ⟨w.heap.size, 4, none⟩ = some (.int .i64 s.lmost) ∧ W.cell? ⟨w.heap.size, 5, none⟩ = some (.int .i64 s.lleast) :=
    fun W h => ⟨(h.cell (p := ⟨w.heap.size, 0, none⟩) (Nat.lt_succ_self _)).trans q0, (h.cell (p := ⟨w.heap.size, 1, none⟩) (Nat.lt_succ_self _)).trans q1, (h.cell (p := ⟨w.heap.size, 2, none⟩) (Nat.lt_succ_self _)).trans q2, (h.cell (p := ⟨w.heap.size, 3, none⟩) (Nat.lt_succ_self _)).trans q3, (h.cell (p := ⟨w.heap.size, 4, none⟩) (Nat.lt_succ_self _)).trans q4, (h.cell (p := ⟨w.heap.size, 5, none⟩) (Nat.lt_succ_self _)).trans q5⟩
  have HK := hide hK
  have hB1 : Below (w.heap.size + 1) w1 w1 := Below.refl _ _
  clear hb0 hb1 hK
  go_wp2_with (go_at_call 10; refine halted ?_)
  refine go_on ?_
  refine (E1.out _ hbw).mono ?_
  rintro e w2 ⟨rfl, hb2⟩
  have hB2 := hB1.trans (hb2.mono (show w.heap.size + 1 ≤ w1.heap.size from hs1))
  have hbw2 := hbw.trans (hb2.mono hbw.size)
  clear q0 q1 q2 q3 q4 q5 hb2 hB1
  obtain ⟨q0, q1, q2, q3, q4, q5⟩ := HK.out _ hB2
  go_wp2_with (go_at_call 12; refine halted ?_)
  refine go_on ?_
  refine (E2.out _ hbw2).mono ?_
  rintro e w3 ⟨rfl, hb3⟩
  have hB3 := hB2.trans (hb3.mono (Nat.le_trans (show w.heap.size + 1 ≤ w1.heap.size from hs1) hB2.size))
  have hbw3 := hbw2.trans (hb3.mono hbw2.size)
  clear q0 q1 q2 q3 q4 q5 hb3 hB2
  obtain ⟨q0, q1, q2, q3, q4, q5⟩ := HK.out _ hB3
  go_wp2_with (go_at_call 13; refine halted ?_)
  refine go_on ?_
  refine (E3.out _ hbw3).mono ?_
  rintro e w4 ⟨rfl, hb4⟩
  have hB4 := hB3.trans (hb4.mono (Nat.le_trans (show w.heap.size + 1 ≤ w1.heap.size from hs1) hB3.size))
  have hbw4 := hbw3.trans (hb4.mono hbw3.size)
  clear q0 q1 q2 q3 q4 q5 hb4 hB3
  obtain ⟨q0, q1, q2, q3, q4, q5⟩ := HK.out _ hB4
  go_wp2_with (go_at_call 14; refine halted ?_)
  refine go_on ?_
  refine (E4.out _ hbw4).mono ?_
  rintro e w5 ⟨rfl, hb5⟩
  have hB5 := hB4.trans (hb5.mono (Nat.le_trans (show w.heap.size + 1 ≤ w1.heap.size from hs1) hB4.size))
  have hbw5 := hbw4.trans (hb5.mono hbw4.size)
  clear q0 q1 q2 q3 q4 q5 hb5 hB4
  have hq5 : w.heap.size + 1 ≤ w5.heap.size := Nat.le_trans (show w.heap.size + 1 ≤ w1.heap.size from hs1) hB5.size
  obtain ⟨q0, q1, q2, q3, q4, q5⟩ := HK.out _ hB5
  go_wp2
  have g1 : (n1 == n1) = true := by simp
  have g2 : (e1 == e1) = true := by simp
  have g3 : (n2 == n2) = true := by simp
  have g4 : (e2 == e2) = true := by simp
  have g5 : (r3 == r3) = true := by simp
  have hSd := HK.out _ (Below.drew hB5)
  clear q0 q1 q2 q3 q4 q5
  go_region_held3 (fun W => W.cell? ⟨w.heap.size, 0, none⟩ = some (.slice A s.brs.length c) ∧ W.cell? ⟨w.heap.size, 1, none⟩ = some (.int .i64 s.ded) ∧ W.cell? ⟨w.heap.size, 2, none⟩ = some (.int .i64 s.cred) ∧ W.cell? ⟨w.heap.size, 3, none⟩ = some (.int .i64 s.lbp) ∧ W.cell? ⟨w.heap.size, 4, none⟩ = some (.int .i64 s.lmost) ∧ W.cell? ⟨w.heap.size, 5, none⟩ = some (.int .i64 s.lleast))
    (with_reducible assumption)
    (first
      | (go_at_call 11; (with_reducible refine (E5.out _ ?_).mono ?_); (with_reducible exact Below.drew hbw5); rintro e w6 ⟨rfl, hb6⟩; have hB6 := (Below.drew hB5).trans (hb6.mono hq5); have hbw6 := (Below.drew hbw5).trans (hb6.mono hbw5.size); have hS6 := HK.out _ hB6)
      | (go_at_call 15; (with_reducible refine (E6.out _ ?_).mono ?_); (with_reducible exact hbw6); rintro e w7 ⟨rfl, hb7⟩; have hbw7 := hbw6.trans (hb7.mono hbw6.size); have hS7 := HK.out _ (hB6.trans (hb7.mono (Nat.le_trans (show w.heap.size + 1 ≤ w1.heap.size from hs1) hB6.size)))))
  all_goals
    go_wp2
    go_ret
    exact ⟨by first | rfl | simp, hbw7⟩
end Go.Proofs.Ytedaajilmeplnaa
