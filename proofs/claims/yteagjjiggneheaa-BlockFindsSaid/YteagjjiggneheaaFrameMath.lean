/-
  Frames in plain Lean.
-/
import Derived.Test.YteagjjiggneheaaCodeMath
import Derived.Test.YteagjjiggneheaaMathCheck
namespace Go.Proofs.Yteagjjiggneheaa

/-- A number's four bytes. -/
def four (s : Nat) : List UInt8 := [UInt8.ofNat (s / 16777216 % 256), UInt8.ofNat (s / 65536 % 256), UInt8.ofNat (s / 256 % 256), UInt8.ofNat (s % 256)]
/-- A frame. -/
def frameB (k : UInt8) (b : List UInt8) : List UInt8 := (k :: textB b) ++ four (addS 0 (k :: textB b))
/-- What Put answers. -/
def putR (k : UInt8) (b : List UInt8) : List UInt8 × Int := if b.length ≤ 65536 then (frameB k b, 0) else ([], 1)
theorem putR_ok {k : UInt8} {b : List UInt8} (h : b.length ≤ 65536) : putR k b = (frameB k b, 0) := if_pos h
theorem putR_no {k : UInt8} {b : List UInt8} (h : ¬ b.length ≤ 65536) : putR k b = ([], 1) := if_neg h

theorem four_len (s : Nat) : (four s).length = 4 := rfl
theorem four_at (s k : Nat) (hk : k < 4) : (four s)[k]? = some (UInt8.ofNat (s / 2 ^ (8 * (3 - k)) % 256)) := by
  have : k = 0 ∨ k = 1 ∨ k = 2 ∨ k = 3 := by omega
  rcases this with rfl | rfl | rfl | rfl
  · rfl
  · rfl
  · rfl
  · simp [four]
theorem frameB_len (k : UInt8) (b : List UInt8) : (frameB k b).length ≤ b.length + 16 := by
  unfold frameB
  have := textB_len b
  simp [four_len]; omega
end Go.Proofs.Yteagjjiggneheaa
