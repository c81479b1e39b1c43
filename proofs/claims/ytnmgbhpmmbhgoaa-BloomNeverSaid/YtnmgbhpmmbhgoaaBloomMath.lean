/-
  Filters in plain Lean.
-/
import Derived.Test.YtnmgbhpmmbhgoaaSum
namespace Go.Proofs.Ytnmgbhpmmbhgoaa
open Go.RowKit
set_option linter.unusedVariables false

/-- Is that a filter? -/
def isF (f : List UInt8) : Bool := decide (9 ≤ f.length) && (decide (1 ≤ (f.headD 0).toNat) && decide ((f.headD 0).toNat ≤ 12))
/-- A key's two sums. -/
def hK (key : List UInt8) : Nat := addS 0 key
def gK (key : List UInt8) : Nat := addS 0 key.reverse + 1
theorem hK_lt (key : List UInt8) : hK key < 2147483647 := addS_lt 0 key (by omega)
theorem gK_lt (key : List UInt8) : gK key ≤ 2147483647 := by have := addS_lt 0 key.reverse (by omega); unfold gK; omega
theorem gK_pos (key : List UInt8) : 1 ≤ gK key := by unfold gK; omega
/-- The place of its i-th probe among m bits. -/
def posK (key : List UInt8) (m i : Nat) : Nat := (hK key + i * gK key) % m
/-- A bit of a byte, of a filter. -/
def bitB (b : UInt8) (k : Nat) : Bool := decide (b.toNat / 2 ^ k % 2 = 1)
def bitF (f : List UInt8) (j : Nat) : Bool := bitB (f.getD (1 + j / 8) 0) (j % 8)
/-- Are the first p probes' bits set? -/
def allF (f key : List UInt8) (p : Nat) : Bool := (List.range p).all fun i => bitF f (posK key (8 * (f.length - 1)) i)
theorem allF_zero (f key : List UInt8) : allF f key 0 = true := rfl
theorem allF_succ (f key : List UInt8) (p : Nat) : allF f key (p + 1) = (allF f key p && bitF f (posK key (8 * (f.length - 1)) p)) := by
  unfold allF; rw [List.range_succ, List.all_append]; simp
theorem allF_false {f key : List UInt8} {i p : Nat} (hi : i < p) (h : bitF f (posK key (8 * (f.length - 1)) i) = false) : allF f key p = false := by
  unfold allF; rw [List.all_eq_false]; exact ⟨i, by simpa using hi, by simp [h]⟩
def mayF (f key : List UInt8) : Bool := if isF f = true then allF f key (f.headD 0).toNat else true
theorem mayF_no {f key : List UInt8} (h : isF f = false) : mayF f key = true := if_neg (by rw [h]; exact Bool.false_ne_true)
theorem mayF_yes {f key : List UInt8} (h : isF f = true) : mayF f key = allF f key (f.headD 0).toNat := if_pos h
/-- How many bits of a byte are set. -/
def onesB (b : Nat) : Nat := b % 2 + b / 2 % 2 + b / 4 % 2 + b / 8 % 2 + b / 16 % 2 + b / 32 % 2 + b / 64 % 2 + b / 128 % 2
theorem onesB_le (b : Nat) : onesB b ≤ 8 := by unfold onesB; omega
def sumO (l : List UInt8) : Nat := (l.map fun b => onesB b.toNat).sum
theorem sumO_nil : sumO [] = 0 := rfl
theorem sumO_snoc (l : List UInt8) (b : UInt8) : sumO (l ++ [b]) = sumO l + onesB b.toNat := by unfold sumO; simp
theorem sumO_le (l : List UInt8) : sumO l ≤ 8 * l.length := by
  induction l with
  | nil => simp [sumO]
  | cons b l ih =>
    have := onesB_le b.toNat
    have e : sumO (b :: l) = onesB b.toNat + sumO l := by simp [sumO]
    rw [e, List.length_cons]; omega
def countF (f : List UInt8) : Nat := if isF f = true then sumO (f.drop 1) else 0
/-- Two filters in one. -/
def orL (a b : List UInt8) : List UInt8 := List.zipWith (fun x y => x ||| y) a b
def bothOk (a b : List UInt8) : Bool := isF a && (isF b && (decide (a.length = b.length) && decide (a.headD 0 = b.headD 0)))
def bothR (a b : List UInt8) : List UInt8 × Int := if bothOk a b = true then (orL a b, 0) else ([], 1)
theorem bothR_ok {a b : List UInt8} (h : bothOk a b = true) : bothR a b = (orL a b, 0) := if_pos h
theorem bothR_no {a b : List UInt8} (h : bothOk a b = false) : bothR a b = ([], 1) := if_neg (by rw [h]; exact Bool.false_ne_true)

theorem head_of {f : List UInt8} {x : UInt8} (h : f[0]? = some x) : f.headD 0 = x := by
  cases f with
  | nil => simp at h
  | cons a r => simp at h; simpa using h
theorem isF_ways (f : List UInt8) : (isF f = false ∧ f.length < 9) ∨ (9 ≤ f.length ∧ ∃ x, Hid (f[0]? = some x) ∧ ((isF f = false ∧ (x.toNat : Int) < 1) ∨ (isF f = false ∧ 1 ≤ (x.toNat : Int) ∧ 12 < (x.toNat : Int)) ∨ (isF f = true ∧ 1 ≤ (x.toNat : Int) ∧ (x.toNat : Int) ≤ 12))) := by
  by_cases h : 9 ≤ f.length
  · right
    refine ⟨h, f[0], List.getElem?_eq_getElem (by omega), ?_⟩
    have hh : f.headD 0 = f[0] := head_of (List.getElem?_eq_getElem (by omega))
    unfold isF
    rw [hh]
    by_cases h1 : 1 ≤ f[0].toNat
    · by_cases h2 : f[0].toNat ≤ 12
      · exact .inr (.inr ⟨by simp [h, h1, h2], by omega, by omega⟩)
      · exact .inr (.inl ⟨by simp [h2], by omega, by omega⟩)
    · exact .inl ⟨by simp [h1], by omega⟩
  · exact .inl ⟨by unfold isF; simp [h], by omega⟩
theorem isF_len {f : List UInt8} (h : isF f = true) : 9 ≤ f.length ∧ ∃ x, f[0]? = some x ∧ f.headD 0 = x ∧ 1 ≤ x.toNat ∧ x.toNat ≤ 12 := by
  rcases isF_ways f with ⟨h1, -⟩ | ⟨h9, x, hx, ⟨h1, -⟩ | ⟨h1, -⟩ | ⟨-, h2, h3⟩⟩
  · rw [h] at h1; cases h1
  · rw [h] at h1; cases h1
  · rw [h] at h1; cases h1
  · exact ⟨h9, x, hx.out, head_of hx.out, by omega, by omega⟩
/-- A probe's place lies in the filter. -/
theorem pos_in {f : List UInt8} (h : 2 ≤ f.length) (key : List UInt8) (i : Nat) : posK key (8 * (f.length - 1)) i < 8 * (f.length - 1) ∧ 1 + posK key (8 * (f.length - 1)) i / 8 < f.length := by
  have : posK key (8 * (f.length - 1)) i < 8 * (f.length - 1) := Nat.mod_lt _ (by omega)
  omega
/-- The bit as the two write it. -/
theorem bit_and_all : ∀ b, b < 256 → ∀ k, k < 8 → (b &&& 2 ^ k = 0 ↔ b / 2 ^ k % 2 = 0) := by decide +kernel
theorem bit_and {b : Nat} (hb : b < 256) {k : Nat} (hk : k < 8) : (b &&& 2 ^ k = 0 ↔ b / 2 ^ k % 2 = 0) := bit_and_all b hb k hk
theorem bit_or_all : ∀ b, b < 256 → ∀ k, k < 8 → ∀ m, m < 8 → (b ||| 2 ^ k) < 256 ∧ (b ||| 2 ^ k) / 2 ^ m % 2 = if m = k then 1 else b / 2 ^ m % 2 := by decide +kernel
end Go.Proofs.Ytnmgbhpmmbhgoaa
