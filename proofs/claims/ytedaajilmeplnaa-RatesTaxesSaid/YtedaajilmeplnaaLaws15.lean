/-
  The laws of chapter 15 on taxes, walked.
-/
import Derived.Test.YtedaajilmeplnaaTax
import Derived.Test.YtedaajilmeplnaaRatesLaw
namespace Go.Proofs.Ytedaajilmeplnaa
open Go.RowKit
set_option linter.unusedVariables false

theorem awake_any (w : World) : Calls Try.prog 9 #[] w fun e w' => e = .returned (.bool true) ∧ Below w.heap.size w w' := by
  have hr : Row (w.alloc (.cells #[.int .i64 0, .int .i64 1000, .int .i64 1000, .int .i64 2000] 32)) (w.heap.size + 1) (some ⟨w.heap.size, 0, none⟩) (brCells [(0, 1000), (1000, 2000)]) :=
    Row.new w #[.int .i64 0, .int .i64 1000, .int .i64 1000, .int .i64 2000] 32 (0, 0)
  have ht := tax_any ⟨[(0, 1000), (1000, 2000)], 100, 5, 0, 0, 0⟩ (some ⟨w.heap.size, 0, none⟩) 2 1600 _ (hr.more (by simp)) (by simp)
  have e1 : taxR ⟨[(0, 1000), (1000, 2000)], 100, 5, 0, 0, 0⟩ 1600 = (195, 0) := by decide +kernel
  rw [e1] at ht
  have HT := hide ht
  clear ht e1 hr
  go_enter Try.func9, Try.ntmps9
  go_wp2_with (go_at_call 10; refine halted ?_)
  refine go_on ?_
  refine HT.out.mono ?_
  rintro e w' ⟨rfl, hb⟩
  go_wp2_with fail
  go_ret
  exact ⟨rfl, ((Below.refl w.heap.size w).alloc (Nat.le_refl _) _).trans (hb.mono (by simp))⟩

theorem ratesFlat_any (bp x : Int) (w : World) (hb0 : -9223372036854775808 ≤ bp) (hb1 : bp ≤ 9223372036854775807) (hx0 : -9223372036854775808 ≤ x) (hx1 : x ≤ 9223372036854775807) :
    Calls Try.prog 5 #[.int .i64 bp, .int .i64 x] w fun e w' => e = .returned (.bool true) ∧ Below w.heap.size w w' := by
  have hright : Sch.right ⟨[(0, bp)], 0, 0, 0, 0, 0⟩ = (decide (0 ≤ bp) && decide (bp ≤ 10000)) := by
    simp [Sch.right, Sch.sizes, brsOk, moneyB, headZero]
  have hok : Sch.ok ⟨[(0, bp)], 0, 0, 0, 0, 0⟩ x = (decide (0 ≤ bp) && decide (bp ≤ 10000) && (decide (0 ≤ x) && decide (x ≤ 1125899906842624))) := by
    unfold Sch.ok; rw [hright]; simp [moneyB]
  have hcall : ∀ w0 : World, w.heap.size ≤ w0.heap.size → Calls Try.prog 10 #[.agg #[.slice (some ⟨w0.heap.size, 0, none⟩) 1 1, .int .i64 0, .int .i64 0, .int .i64 0, .int .i64 0, .int .i64 0], .int .i64 x] (w0.alloc (.cells #[.int .i64 0, .int .i64 bp] 32))
      fun e w' => e = .returned (.tuple #[.int .i64 (taxR ⟨[(0, bp)], 0, 0, 0, 0, 0⟩ x).1, .int .i64 (taxR ⟨[(0, bp)], 0, 0, 0, 0, 0⟩ x).2]) ∧ Below w0.heap.size w0 w' := fun w0 h0 => by
    have hr : Row (w0.alloc (.cells #[.int .i64 0, .int .i64 bp] 32)) (w0.heap.size + 1) (some ⟨w0.heap.size, 0, none⟩) (brCells [(0, bp)]) := Row.new w0 #[.int .i64 0, .int .i64 bp] 32 (0, 0)
    exact (tax_any ⟨[(0, bp)], 0, 0, 0, 0, 0⟩ (some ⟨w0.heap.size, 0, none⟩) 1 x _ (hr.more (by simp)) (by simp)).mono fun e w' ⟨he, hb⟩ => ⟨he, ((Below.refl w0.heap.size w0).alloc (Nat.le_refl _) _).trans (hb.mono (by simp))⟩
  have HC := hide hcall
  clear hcall hright
  by_cases c : 0 ≤ bp ∧ bp ≤ 10000 ∧ 0 ≤ x ∧ x ≤ 1125899906842624
  · have c1 := c.1
    have c2 := c.2.1
    have c3 := c.2.2.1
    have c4 := c.2.2.2
    have HT := hide (taxR_ok (hok.trans (by simp [c])))
    rw [tax_flat bp x c1 c3] at HT
    have n1 : 0 ≤ x / 10000 * bp := Int.mul_nonneg (by omega) c1
    have n2 : 0 ≤ x % 10000 * bp := Int.mul_nonneg (by omega) c1
    have t := taken x bp c3 c1 c2
    have t1 := t.2.2.1
    have t2 := t.2.2.2.2
    clear c t hok
    go_enter Try.func5, Try.ntmps5
    go_wp2_with (first | (go_at_call 9; refine (awake_any _).mono ?_; rintro e w1 ⟨rfl, hb1⟩) | (go_at_call 10; refine halted ?_))
    refine go_on ?_
    refine (HC.out w1 hb1.size).mono ?_
    rw [HT.out]
    rintro e w2 ⟨rfl, hb2⟩
    have hbw := hb1.trans (hb2.mono hb1.size)
    go_wp2
    go_ret
    exact ⟨rfl, hbw⟩
  · have hno : Sch.ok ⟨[(0, bp)], 0, 0, 0, 0, 0⟩ x = false := by rw [hok]; simp; omega
    have HT := hide (taxR_no hno)
    have hc : bp < 0 ∨ (0 ≤ bp ∧ 10000 < bp) ∨ (0 ≤ bp ∧ bp ≤ 10000 ∧ x < 0) ∨ (0 ≤ bp ∧ bp ≤ 10000 ∧ 0 ≤ x ∧ 1125899906842624 < x) := by omega
    clear c hok hno
    rcases hc with h1 | ⟨h1, h2⟩ | ⟨h1, h2, h3⟩ | ⟨h1, h2, h3, h4⟩
    all_goals
      go_enter Try.func5, Try.ntmps5
      go_wp2_with (first | (go_at_call 9; refine (awake_any _).mono ?_; rintro e w1 ⟨rfl, hb1⟩) | (go_at_call 10; refine halted ?_))
      refine go_on ?_
      refine (HC.out w1 hb1.size).mono ?_
      rw [HT.out]
      rintro e w2 ⟨rfl, hb2⟩
      have hbw := hb1.trans (hb2.mono hb1.size)
      go_wp2
      go_ret
      exact ⟨rfl, hbw⟩
end Go.Proofs.Ytedaajilmeplnaa
