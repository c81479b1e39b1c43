/-
  Codes taken, in plain Lean.
-/
import Derived.Test.YtibanikfalfmcaaCodeMath
namespace Go.Proofs.Ytibanikfalfmcaa

/-- Digits taken, i of them gone, n so far. -/
def takeLoop (first : UInt8) : Nat → Nat → List UInt8 → Option (Nat × List UInt8)
  | _, _, [] => none
  | i, n, c :: r => if 144115188075855872 ≤ n ∨ (0 < i ∧ first = 128) then none else
      if c.toNat < 128 then some (n * 128 + c.toNat % 128, r) else takeLoop first (i + 1) (n * 128 + c.toNat % 128) r
/-- The number with which bytes begin. -/
def takeN (b : List UInt8) : Option (Nat × List UInt8) := takeLoop (b.headD 0) 0 0 b
/-- The text with which bytes begin. -/
def takeT (b : List UInt8) : Option (List UInt8 × List UInt8) := match takeN b with
  | none => none
  | some (n, r) => if n ≤ r.length then some (r.take n, r.drop n) else none
/-- What a taking of a number answers. -/
def tookR : Option (Nat × List UInt8) → Nat × List UInt8 × Int
  | none => (0, [], 3)
  | some (n, r) => (n, r, 0)
/-- What a taking of a text answers. -/
def tookT : Option (List UInt8 × List UInt8) → List UInt8 × List UInt8 × Int
  | none => ([], [], 3)
  | some (t, r) => (t, r, 0)

theorem takeT_none {b : List UInt8} (h : takeN b = none) : takeT b = none := by unfold takeT; rw [h]
theorem takeT_short {b : List UInt8} {n : Nat} {r : List UInt8} (h : takeN b = some (n, r)) (hn : ¬ n ≤ r.length) : takeT b = none := by unfold takeT; rw [h]; exact if_neg hn
theorem takeT_some {b : List UInt8} {n : Nat} {r : List UInt8} (h : takeN b = some (n, r)) (hn : n ≤ r.length) : takeT b = some (r.take n, r.drop n) := by unfold takeT; rw [h]; exact if_pos hn

theorem takeLoop_nil (f : UInt8) (i n : Nat) : takeLoop f i n [] = none := rfl
theorem takeLoop_big {f : UInt8} {i n : Nat} {c : UInt8} {r : List UInt8} (h : 144115188075855872 ≤ n) : takeLoop f i n (c :: r) = none := if_pos (.inl h)
theorem takeLoop_lead {f : UInt8} {i n : Nat} {c : UInt8} {r : List UInt8} (h : 0 < i ∧ f = 128) : takeLoop f i n (c :: r) = none := if_pos (.inr h)
theorem takeLoop_end {f : UInt8} {i n : Nat} {c : UInt8} {r : List UInt8} (h : ¬ (144115188075855872 ≤ n ∨ (0 < i ∧ f = 128))) (hc : c.toNat < 128) : takeLoop f i n (c :: r) = some (n * 128 + c.toNat % 128, r) := by
  unfold takeLoop; rw [if_neg h, if_pos hc]
theorem takeLoop_next {f : UInt8} {i n : Nat} {c : UInt8} {r : List UInt8} (h : ¬ (144115188075855872 ≤ n ∨ (0 < i ∧ f = 128))) (hc : ¬ c.toNat < 128) : takeLoop f i n (c :: r) = takeLoop f (i + 1) (n * 128 + c.toNat % 128) r := by
  conv => lhs; unfold takeLoop
  rw [if_neg h, if_neg hc]
theorem takeLoop_none {f : UInt8} {i n : Nat} {r : List UInt8} (h : 144115188075855872 ≤ n ∨ (0 < i ∧ f = 128)) : takeLoop f i n r = none := by
  cases r with
  | nil => rfl
  | cons c r => exact if_pos h

theorem takeLoop_lt {f : UInt8} {i n : Nat} {b : List UInt8} {m : Nat} {r : List UInt8} (h : takeLoop f i n b = some (m, r)) : m < 18446744073709551616 := by
  induction b generalizing i n with
  | nil => cases h
  | cons c t ih =>
    unfold takeLoop at h
    split at h
    · cases h
    · rename_i hc
      have hn : n < 144115188075855872 := by
        rcases Nat.lt_or_ge n 144115188075855872 with h' | h'
        · exact h'
        · exact absurd (.inl h') hc
      split at h
      · injection h with h
        simp only [Prod.mk.injEq] at h
        have : c.toNat % 128 < 128 := Nat.mod_lt _ (by omega)
        omega
      · exact ih h
theorem takeN_lt {b : List UInt8} {m : Nat} {r : List UInt8} (h : takeN b = some (m, r)) : m < 18446744073709551616 := takeLoop_lt h

theorem takeLoop_suffix {f : UInt8} {i n : Nat} {b : List UInt8} {m : Nat} {r : List UInt8} (h : takeLoop f i n b = some (m, r)) : ∃ p, b = p ++ r ∧ p ≠ [] := by
  induction b generalizing i n with
  | nil => cases h
  | cons c t ih =>
    unfold takeLoop at h
    split at h
    · cases h
    · split at h
      · injection h with h
        simp only [Prod.mk.injEq] at h
        exact ⟨[c], by rw [h.2]; rfl, by simp⟩
      · obtain ⟨p, hp, _⟩ := ih h
        exact ⟨c :: p, by rw [hp]; rfl, by simp⟩
theorem takeN_suffix {b : List UInt8} {m : Nat} {r : List UInt8} (h : takeN b = some (m, r)) : ∃ p, b = p ++ r ∧ p ≠ [] := takeLoop_suffix h
end Go.Proofs.Ytibanikfalfmcaa
