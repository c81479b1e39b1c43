/-
  Codes of numbers and texts, in plain Lean.
-/
namespace Go.Proofs.Ytibanikfalfmcaa

/-- The digits above the lowest, the lowest of them first. -/
def moreLE : Nat → Nat → List UInt8
  | 0, _ => []
  | f + 1, m => if m = 0 then [] else UInt8.ofNat (m % 128 + 128) :: moreLE f (m / 128)
/-- A number's digits, the lowest first. -/
def lowFirst (n : Nat) : List UInt8 := UInt8.ofNat (n % 128) :: moreLE 10 (n / 128)
/-- A number's code. -/
def numB (n : Nat) : List UInt8 := (lowFirst n).reverse
/-- A text's code. -/
def textB (b : List UInt8) : List UInt8 := numB b.length ++ b

theorem moreLE_zero (f : Nat) : moreLE f 0 = [] := by cases f <;> simp [moreLE]
theorem moreLE_step {f m : Nat} (h : m ≠ 0) : moreLE (f + 1) m = UInt8.ofNat (m % 128 + 128) :: moreLE f (m / 128) := if_neg h
theorem moreLE_len (f m : Nat) : (moreLE f m).length ≤ f := by
  induction f generalizing m with
  | zero => simp [moreLE]
  | succ f ih =>
    unfold moreLE
    split
    · simp
    · have := ih (m / 128); simp; omega
theorem numB_len (n : Nat) : (numB n).length ≤ 11 := by
  unfold numB lowFirst
  have := moreLE_len 10 (n / 128)
  simp; omega
theorem textB_len (b : List UInt8) : (textB b).length ≤ b.length + 11 := by
  unfold textB
  have := numB_len b.length
  simp; omega
theorem div_lt_pow {m f : Nat} (h : m < 128 ^ (f + 1)) : m / 128 < 128 ^ f := by
  rw [Nat.pow_succ] at h
  exact Nat.div_lt_of_lt_mul (by rw [Nat.mul_comm]; exact h)
end Go.Proofs.Ytibanikfalfmcaa
