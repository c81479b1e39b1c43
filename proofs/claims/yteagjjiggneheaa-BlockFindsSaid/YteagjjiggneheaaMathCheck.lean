/-
  The plain law of the check sum: sums of lists of bytes by a prime, powers, joined and cut.
-/
namespace Go.Proofs.Yteagjjiggneheaa

/-- The sum of bytes that follow others of a sum. -/
def addS (s : Nat) (bs : List UInt8) : Nat := bs.foldl (fun s b => (s * 16807 + b.toNat + 1) % 2147483647) s
/-- A power, by the prime. -/
def powM (b n : Nat) : Nat := b ^ n % 2147483647

theorem addS_nil (s : Nat) : addS s [] = s := rfl
theorem addS_snoc (s : Nat) (bs : List UInt8) (b : UInt8) : addS s (bs ++ [b]) = (addS s bs * 16807 + b.toNat + 1) % 2147483647 := by
  simp [addS, List.foldl_append]
theorem addS_cons (s : Nat) (b : UInt8) (bs : List UInt8) : addS s (b :: bs) = addS ((s * 16807 + b.toNat + 1) % 2147483647) bs := rfl
theorem addS_append (s : Nat) (a b : List UInt8) : addS s (a ++ b) = addS (addS s a) b := by simp [addS, List.foldl_append]
theorem addS_lt (s : Nat) (bs : List UInt8) (h : s < 2147483647) : addS s bs < 2147483647 := by
  induction bs generalizing s with
  | nil => exact h
  | cons b bs ih => rw [addS_cons]; exact ih _ (Nat.mod_lt _ (by omega))
theorem powM_lt (b n : Nat) : powM b n < 2147483647 := Nat.mod_lt _ (by omega)
theorem powM_zero (b : Nat) : powM b 0 = 1 := rfl
theorem powM_succ (b n : Nat) : powM b (n + 1) = powM b n * b % 2147483647 := by
  unfold powM
  rw [Nat.pow_succ, Nat.mod_mul_mod]
theorem powM_add (b m n : Nat) : powM b (m + n) = powM b m * powM b n % 2147483647 := by
  unfold powM
  rw [Nat.pow_add, ← Nat.mul_mod]

/-- A step of the power by squares: of the bits from i on. -/
theorem pow_step (b p k : Nat) : k % 2 = 1 → p * powM b k % 2147483647 = (p * b % 2147483647) * powM (b * b % 2147483647) (k / 2) % 2147483647 := by
  intro hk
  have hk2 : k = 2 * (k / 2) + 1 := by omega
  unfold powM
  rw [← Nat.pow_mod, ← Nat.pow_two, ← Nat.pow_mul]
  rw [Nat.mul_mod_mod, Nat.mod_mul_mod, Nat.mul_mod_mod, Nat.mul_assoc, Nat.mul_comm b (b ^ (2 * (k / 2))), ← Nat.pow_succ]
  exact congrArg (fun e => p * b ^ e % 2147483647) hk2
theorem pow_skip (b p k : Nat) : k % 2 = 0 → p * powM b k % 2147483647 = p * powM (b * b % 2147483647) (k / 2) % 2147483647 := by
  intro hk
  have hk2 : k = 2 * (k / 2) := by omega
  unfold powM
  rw [← Nat.pow_mod, ← Nat.pow_two, ← Nat.pow_mul, ← hk2]
end Go.Proofs.Yteagjjiggneheaa
