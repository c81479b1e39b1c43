/-
  The reference's wide numbers: told as an amount.
-/
import Derived.Test.YtibanikfalfmcaaWideOf
import Derived.Test.YtibanikfalfmcaaWideLess
namespace Go.Proofs.Ytibanikfalfmcaa
open Go.RowKit
set_option linter.unusedVariables false

def toldR (n : Bool) (x : Int) : Int × Int := if 4611686018427387904 < x then (0, 2) else (if n = true then -x else x, 0)
theorem toldR_great {n : Bool} {x : Int} (h : 4611686018427387904 < x) : toldR n x = (0, 2) := if_pos h
theorem toldR_pos {x : Int} (h : ¬ 4611686018427387904 < x) : toldR false x = (x, 0) := by unfold toldR; rw [if_neg h]; rfl
theorem toldR_neg {x : Int} (h : ¬ 4611686018427387904 < x) : toldR true x = (-x, 0) := by unfold toldR; rw [if_neg h]; rfl

set_option maxRecDepth 100000 in
set_option maxHeartbeats 4000000 in
theorem wtold_any (n : Bool) (x : Int) (hx : Fit x) (w : World) :
    Calls Try.prog 25 #[wideV n x] w fun e w' => e = .returned (.tuple #[.int .i64 (toldR n x).1, .int .i64 (toldR n x).2]) ∧ Below w.heap.size w w' := by
  have hOf := fun W => of_pos 4611686018427387904 (by omega) (by omega) W
  have hLess := fun W => less_any 4611686018427387904 x (by unfold Fit; omega) hx W
  have hb0 : ∀ t, Below w.heap.size w (w.alloc (.cells #[.bool n, .int .u64 (dg0 x), .int .u64 (dg1 x), .int .u64 (dg2 x), .int .u64 (dg3 x)] t)) := fun t => (Below.refl w.heap.size w).alloc (Nat.le_refl _) _
  unfold wideV at *
  unfold arrV at hLess
  generalize dg0 4611686018427387904 = l0 at *
  generalize dg1 4611686018427387904 = l1 at *
  generalize dg2 4611686018427387904 = l2 at *
  generalize dg3 4611686018427387904 = l3 at *
  have hx0 : 0 ≤ x := hx.1
  have hdec : decide ((4611686018427387904 : Int) < x) = true ∨ decide ((4611686018427387904 : Int) < x) = false := by cases decide ((4611686018427387904 : Int) < x) <;> simp
  rcases hdec with hd | hd
  · rw [toldR_great (of_decide_eq_true hd)]
    rw [hd] at hLess
    have HOF := hide hOf
    have HLESS := hide hLess
    clear hOf hLess hd hx0
    generalize dg0 x = x0 at *
    generalize dg1 x = x1 at *
    generalize dg2 x = x2 at *
    generalize dg3 x = x3 at *
    go_enter Try.func25, Try.ntmps25
    go_wp2_with (go_at_call 24; refine halted ?_)
    refine go_on ?_
    refine (HOF.out _).mono ?_
    rintro e w1 ⟨rfl, hb1⟩
    have hbw := (hb0 _).trans (hb1.mono (by simp))
    have hs1 : w.heap.size < w1.heap.size := by have := hb1.size; simp at this; omega
    have c1 := hb1.cell (p := ⟨w.heap.size, 1, none⟩) (by simp)
    have c2 := hb1.cell (p := ⟨w.heap.size, 2, none⟩) (by simp)
    have c3 := hb1.cell (p := ⟨w.heap.size, 3, none⟩) (by simp)
    have c4 := hb1.cell (p := ⟨w.heap.size, 4, none⟩) (by simp)
    simp at c1 c2 c3 c4
    clear hb1 hb0
    go_wp2_with (go_at_call 54; refine halted ?_)
    refine go_on ?_
    refine (HLESS.out _).mono ?_
    rintro e w2 ⟨rfl, hb2⟩
    have hbw2 := (hbw.alloc hbw.size _).trans (hb2.mono (Nat.le_trans hbw.size (by simp)))
    go_wp2
    go_ret2
    exact ⟨rfl, hbw2⟩
  · have hsm : ¬ (4611686018427387904 < x) := of_decide_eq_false hd
    have hdg := dg_small (x := x) hx0 (by omega)
    obtain ⟨z0, z1, z2, z3⟩ := hdg
    have k0 : 0 ≤ dg0 x := by rw [z0]; omega
    have k1 : dg0 x < 4294967296 := by rw [z0]; omega
    have k2 : 0 ≤ dg1 x := by rw [z1]; omega
    have k3 : dg1 x ≤ 1073741824 := by rw [z1]; omega
    have hsum : Hid (dg0 x + dg1 x * 4294967296 = x) := by show _ = _; rw [z0, z1]; omega
    have hT : ∀ b, Hid (toldR b x = (if b = true then -x else x, 0)) := by intro b; cases b; exact toldR_pos hsm; exact toldR_neg hsm
    have k4 : dg0 x + dg1 x * 4294967296 ≤ 4611686018427387904 := by rw [hsum.out]; omega
    rw [hd] at hLess
    have HOF := hide hOf
    have HLESS := hide hLess
    have HT := hide hT
    clear hOf hLess hd hx0 z0 z1 z2 z3 hsm hT
    generalize dg0 x = x0 at *
    generalize dg1 x = x1 at *
    generalize dg2 x = x2 at *
    generalize dg3 x = x3 at *
    go_enter Try.func25, Try.ntmps25
    go_wp2_with (go_at_call 24; refine halted ?_)
    refine go_on ?_
    refine (HOF.out _).mono ?_
    rintro e w1 ⟨rfl, hb1⟩
    have hbw := (hb0 _).trans (hb1.mono (by simp))
    have hs1 : w.heap.size < w1.heap.size := by have := hb1.size; simp at this; omega
    have c0 := hb1.cell (p := ⟨w.heap.size, 0, none⟩) (by simp)
    have c1 := hb1.cell (p := ⟨w.heap.size, 1, none⟩) (by simp)
    have c2 := hb1.cell (p := ⟨w.heap.size, 2, none⟩) (by simp)
    have c3 := hb1.cell (p := ⟨w.heap.size, 3, none⟩) (by simp)
    have c4 := hb1.cell (p := ⟨w.heap.size, 4, none⟩) (by simp)
    simp at c0 c1 c2 c3 c4
    have hba := hbw.alloc hbw.size (.cells #[.bool false, .int .u64 l0, .int .u64 l1, .int .u64 l2, .int .u64 l3] 55)
    clear hb1 hb0
    go_wp2_with (go_at_call 54; refine halted ?_)
    refine go_on ?_
    refine (HLESS.out _).mono ?_
    rintro e w2 ⟨rfl, hb2⟩
    have hbw2 := hba.trans (hb2.mono hba.size)
    have hs2 : w.heap.size < w2.heap.size := by have := hb2.size; simp at this; omega
    have d0 := (hb2.cell (p := ⟨w.heap.size, 0, none⟩) (by simp; omega)).trans ((World.cell?_alloc_lt _ _ _ (by exact hs1)).trans c0)
    have d1 := (hb2.cell (p := ⟨w.heap.size, 1, none⟩) (by simp; omega)).trans ((World.cell?_alloc_lt _ _ _ (by exact hs1)).trans c1)
    have d2 := (hb2.cell (p := ⟨w.heap.size, 2, none⟩) (by simp; omega)).trans ((World.cell?_alloc_lt _ _ _ (by exact hs1)).trans c2)
    clear c0 c1 c2 c3 c4 hb2 hba hbw
    cases n with
    | false =>
      have h1 := HT.out false
      go_wp2
      go_ret2
      exact ⟨by rw [h1.out, ← hsum.out]; rfl, hbw2⟩
    | true =>
      have h1 := HT.out true
      go_wp2
      go_ret2
      exact ⟨by rw [h1.out, ← hsum.out]; rfl, hbw2⟩
end Go.Proofs.Ytibanikfalfmcaa
