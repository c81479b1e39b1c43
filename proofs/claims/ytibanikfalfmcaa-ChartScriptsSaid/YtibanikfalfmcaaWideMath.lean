/-
  Wide numbers in plain Lean: four digits of base 2^32.
-/
import Derived.Test.YtibanikfalfmcaaBase
namespace Go.Proofs.Ytibanikfalfmcaa
set_option linter.unusedVariables false

def dg0 (x : Int) : Int := x % 4294967296
def dg1 (x : Int) : Int := x / 4294967296 % 4294967296
def dg2 (x : Int) : Int := x / 18446744073709551616 % 4294967296
def dg3 (x : Int) : Int := x / 79228162514264337593543950336 % 4294967296
/-- A size that fits. -/
def Fit (x : Int) : Prop := 0 ≤ x ∧ x < 340282366920938463463374607431768211456
/-- The digits of a size. -/
def Dg (x a0 a1 a2 a3 : Int) : Prop := x = a0 + 4294967296 * a1 + 18446744073709551616 * a2 + 79228162514264337593543950336 * a3
def In (a : Int) : Prop := 0 ≤ a ∧ a < 4294967296
theorem In.lo {a : Int} (h : In a) : 0 ≤ a := h.1
theorem In.hi {a : Int} (h : In a) : a < 4294967296 := h.2

theorem dg_in (x : Int) : In (dg0 x) ∧ In (dg1 x) ∧ In (dg2 x) ∧ In (dg3 x) := by
  unfold In dg0 dg1 dg2 dg3; omega
theorem dg_sum {x : Int} (h : Fit x) : Dg x (dg0 x) (dg1 x) (dg2 x) (dg3 x) := by
  unfold Fit at h; unfold Dg dg0 dg1 dg2 dg3; omega
theorem dg_of {x a0 a1 a2 a3 : Int} (h : Dg x a0 a1 a2 a3) (h0 : In a0) (h1 : In a1) (h2 : In a2) (h3 : In a3) : dg0 x = a0 ∧ dg1 x = a1 ∧ dg2 x = a2 ∧ dg3 x = a3 := by
  unfold In at *; unfold Dg at h; unfold dg0 dg1 dg2 dg3; omega
theorem dg_fit {x a0 a1 a2 a3 : Int} (h : Dg x a0 a1 a2 a3) (h0 : In a0) (h1 : In a1) (h2 : In a2) (h3 : In a3) : Fit x := by
  unfold In at *; unfold Dg at h; unfold Fit; omega

/-- The sum, digit by digit. -/
theorem plus_dg {x y a0 a1 a2 a3 b0 b1 b2 b3 : Int} (hx : Dg x a0 a1 a2 a3) (hy : Dg y b0 b1 b2 b3) (ha0 : In a0) (ha1 : In a1) (ha2 : In a2) (ha3 : In a3) (hb0 : In b0) (hb1 : In b1) (hb2 : In b2) (hb3 : In b3) (hf : Fit (x + y))
    {c1 c2 c3 : Int} (h1 : c1 = (a0 + b0) / 4294967296) (h2 : c2 = (a1 + b1 + c1) / 4294967296) (h3 : c3 = (a2 + b2 + c2) / 4294967296) :
    dg0 (x + y) = (a0 + b0) % 4294967296 ∧ dg1 (x + y) = (a1 + b1 + c1) % 4294967296 ∧ dg2 (x + y) = (a2 + b2 + c2) % 4294967296 ∧ dg3 (x + y) = (a3 + b3 + c3) % 4294967296 := by
  have hz : (a3 + b3 + c3) / 4294967296 = 0 := by unfold In Fit Dg at *; omega
  refine dg_of ?_ ?_ ?_ ?_ ?_
  · unfold In Dg at *; omega
  all_goals unfold In; omega
/-- The difference. -/
theorem minus_dg {x y a0 a1 a2 a3 b0 b1 b2 b3 : Int} (hx : Dg x a0 a1 a2 a3) (hy : Dg y b0 b1 b2 b3) (ha0 : In a0) (ha1 : In a1) (ha2 : In a2) (ha3 : In a3) (hb0 : In b0) (hb1 : In b1) (hb2 : In b2) (hb3 : In b3) (hf : y ≤ x)
    {c1 c2 c3 : Int} (h1 : c1 = 1 - (a0 + 4294967296 - b0) / 4294967296) (h2 : c2 = 1 - (a1 + 4294967296 - b1 - c1) / 4294967296) (h3 : c3 = 1 - (a2 + 4294967296 - b2 - c2) / 4294967296) :
    dg0 (x - y) = (a0 + 4294967296 - b0) % 4294967296 ∧ dg1 (x - y) = (a1 + 4294967296 - b1 - c1) % 4294967296 ∧ dg2 (x - y) = (a2 + 4294967296 - b2 - c2) % 4294967296 ∧ dg3 (x - y) = (a3 + 4294967296 - b3 - c3) % 4294967296 := by
  have hz : (a3 + 4294967296 - b3 - c3) / 4294967296 = 1 := by unfold In Dg at *; omega
  refine dg_of ?_ ?_ ?_ ?_ ?_
  · unfold In Dg at *; omega
  all_goals unfold In; omega
/-- Which is less. -/
theorem less_dg {x y a0 a1 a2 a3 b0 b1 b2 b3 : Int} (hx : Dg x a0 a1 a2 a3) (hy : Dg y b0 b1 b2 b3) (ha0 : In a0) (ha1 : In a1) (ha2 : In a2) (ha3 : In a3) (hb0 : In b0) (hb1 : In b1) (hb2 : In b2) (hb3 : In b3) :
    (a3 ≠ b3 → (x < y ↔ a3 < b3)) ∧ (a3 = b3 → a2 ≠ b2 → (x < y ↔ a2 < b2)) ∧ (a3 = b3 → a2 = b2 → a1 ≠ b1 → (x < y ↔ a1 < b1)) ∧ (a3 = b3 → a2 = b2 → a1 = b1 → (x < y ↔ a0 < b0)) := by
  unfold In Dg at *
  refine ⟨fun h => ?_, fun h h' => ?_, fun h h' h'' => ?_, fun h h' h'' => ?_⟩ <;> constructor <;> intro h5 <;> omega
theorem dg_small {x : Int} (h0 : 0 ≤ x) (h1 : x < 18446744073709551616) : dg0 x = x % 4294967296 ∧ dg1 x = x / 4294967296 ∧ dg2 x = 0 ∧ dg3 x = 0 := by
  unfold dg0 dg1 dg2 dg3; omega
end Go.Proofs.Ytibanikfalfmcaa
