/-
  Blocks in plain Lean: keys compared, pairs as bytes.
-/
import Derived.Test.YteagjjiggneheaaCodeMath
import Derived.Test.YteagjjiggneheaaFrameMath
import Derived.Lib.Bytealg
namespace Go.Proofs.Yteagjjiggneheaa
set_option linter.unusedVariables false

/-- How many bytes two keys have in common. -/
def comm : List UInt8 → List UInt8 → Nat
  | a :: as, b :: bs => if a = b then comm as bs + 1 else 0
  | _, _ => 0
theorem comm_le_left (a b : List UInt8) : comm a b ≤ a.length := by
  induction a generalizing b with
  | nil => cases b <;> simp [comm]
  | cons x a ih =>
    cases b with
    | nil => simp [comm]
    | cons y b => unfold comm; split <;> simp; exact ih b
theorem comm_le_right (a b : List UInt8) : comm a b ≤ b.length := by
  induction a generalizing b with
  | nil => cases b <;> simp [comm]
  | cons x a ih =>
    cases b with
    | nil => simp [comm]
    | cons y b => unfold comm; split <;> simp; exact ih b
/-- Ahead of it they are alike; at it they are not. -/
theorem comm_same {a b : List UInt8} {k : Nat} (h : k < comm a b) : a[k]? = b[k]? := by
  induction a generalizing b k with
  | nil => cases b <;> simp [comm] at h
  | cons x a ih =>
    cases b with
    | nil => simp [comm] at h
    | cons y b =>
      unfold comm at h
      split at h
      · rename_i e
        cases k with
        | zero => simp [e]
        | succ k => simp only [List.getElem?_cons_succ]; exact ih (by omega)
      · omega
theorem comm_of {a b : List UInt8} {k : Nat} (h : ∀ j, j < k → a[j]? = b[j]?) (ha : k ≤ a.length) (hb : k ≤ b.length) (hk : k = a.length ∨ k = b.length ∨ a[k]? ≠ b[k]?) : comm a b = k := by
  induction a generalizing b k with
  | nil => simp at ha; subst ha; cases b <;> simp [comm]
  | cons x a ih =>
    cases b with
    | nil => simp at hb; subst hb; simp [comm]
    | cons y b =>
      unfold comm
      cases k with
      | zero =>
        rcases hk with h1 | h1 | h1
        · simp at h1
        · simp at h1
        · simp at h1
          rw [if_neg h1]
      | succ k =>
        have h0 := h 0 (by omega)
        simp at h0
        rw [if_pos h0]
        rw [ih (b := b) (k := k) (fun j hj => by have := h (j + 1) (by omega); simpa using this) (by simpa using ha) (by simpa using hb) (by simpa using hk)]

/-- Is a key less than another one? -/
def lessK (a b : List UInt8) : Bool := Op.bytesLess a b
theorem compare_less (a b : List UInt8) : (0 < Lib.compareBytes a b ↔ Op.bytesLess b a = true) ∧ (Lib.compareBytes a b < 0 ↔ Op.bytesLess a b = true) ∧ (Lib.compareBytes a b = 0 ↔ a = b) := by
  induction a generalizing b with
  | nil => cases b <;> simp [Lib.compareBytes, Op.bytesLess]
  | cons x a ih =>
    cases b with
    | nil => simp [Lib.compareBytes, Op.bytesLess]
    | cons y b =>
      have := ih b
      have hx := x.toNat_lt
      have hy := y.toNat_lt
      unfold Lib.compareBytes Op.bytesLess
      rcases Nat.lt_trichotomy x.toNat y.toNat with h | h | h
      · have h1 : x < y := h
        have h2 : ¬ y < x := fun h3 => by have : y.toNat < x.toNat := h3; omega
        have h3 : x ≠ y := fun e => by subst e; omega
        have h4 : y ≠ x := fun e => h3 e.symm
        simp [h1, h2, h3, h4]
      · have h1 : x = y := UInt8.toNat_inj.1 h
        subst h1
        have h2 : ¬ x < x := fun h3 => by have : x.toNat < x.toNat := h3; omega
        simp [h2]
        exact this
      · have h1 : y < x := h
        have h2 : ¬ x < y := fun h3 => by have : x.toNat < y.toNat := h3; omega
        have h3 : x ≠ y := fun e => by subst e; omega
        have h4 : y ≠ x := fun e => h3 e.symm
        simp [h1, h2, h3]
theorem compare_le {a b : List UInt8} : Lib.compareBytes a b ≤ 0 ↔ Op.bytesLess b a = false := by
  have := (compare_less a b).1
  constructor
  · intro h
    cases hb : Op.bytesLess b a
    · rfl
    · have := this.2 hb; omega
  · intro h
    rcases Int.lt_or_le 0 (Lib.compareBytes a b) with h1 | h1
    · have := this.1 h1; rw [h] at this; cases this
    · exact h1
theorem less_or (a b : List UInt8) : (Op.bytesLess a b || a == b) = !Op.bytesLess b a := by
  obtain ⟨h1, h2, h3⟩ := compare_less a b
  rcases Int.lt_trichotomy (Lib.compareBytes a b) 0 with h | h | h
  · have e1 := h2.1 h
    have e2 : Op.bytesLess b a = false := by cases hb : Op.bytesLess b a; rfl; have := h1.2 hb; omega
    rw [e1, e2]; rfl
  · have e := h3.1 h
    subst e
    have e2 : Op.bytesLess a a = false := by cases hb : Op.bytesLess a a; rfl; have := h1.2 hb; omega
    rw [e2]; simp
  · have e1 := h1.1 h
    have e2 : Op.bytesLess a b = false := by cases hb : Op.bytesLess a b; rfl; have := h2.2 hb; omega
    have e3 : (a == b) = false := by
      cases hb : a == b
      · rfl
      · have := h3.2 (by simpa using hb); omega
    rw [e1, e2, e3]; rfl

abbrev KV := List UInt8 × List UInt8
/-- The key ahead of the k-th pair. -/
def prevKey (l : List KV) (k : Nat) : List UInt8 := match l[k - 1]? with
  | some p => p.1
  | none => []
/-- A pair's bytes: so many of its key's bytes it has in common with the key ahead. -/
def entryB (n : Nat) (p : KV) : List UInt8 := numB n ++ (textB (p.1.drop n) ++ textB p.2)
/-- The bytes of the first k pairs, and where their heads begin. -/
def bodyTo (every : Nat) (l : List KV) : Nat → List UInt8 × List UInt8
  | 0 => ([], [])
  | k + 1 => match l[k]? with
    | none => bodyTo every l k
    | some p => if k % every = 0 then ((bodyTo every l k).1 ++ entryB 0 p, (bodyTo every l k).2 ++ four (bodyTo every l k).1.length) else ((bodyTo every l k).1 ++ entryB (comm (prevKey l k) p.1) p, (bodyTo every l k).2)
theorem bodyTo_head {every k : Nat} {l : List KV} {p : KV} (h : l[k]? = some p) (hk : k % every = 0) : bodyTo every l (k + 1) = ((bodyTo every l k).1 ++ entryB 0 p, (bodyTo every l k).2 ++ four (bodyTo every l k).1.length) := by
  rw [bodyTo, h]; exact if_pos hk
theorem bodyTo_next {every k : Nat} {l : List KV} {p : KV} (h : l[k]? = some p) (hk : ¬ k % every = 0) : bodyTo every l (k + 1) = ((bodyTo every l k).1 ++ entryB (comm (prevKey l k) p.1) p, (bodyTo every l k).2) := by
  rw [bodyTo, h]; exact if_neg hk
/-- Pairs as a block. -/
def builtB (every : Nat) (l : List KV) : List UInt8 := (bodyTo every l l.length).1 ++ ((bodyTo every l l.length).2 ++ (four ((bodyTo every l l.length).2.length / 4) ++ [UInt8.ofNat every]))
/-- Do keys rise? -/
def Rises (l : List KV) (k : Nat) : Prop := ∀ j p q, j + 1 < k → l[j]? = some p → l[j + 1]? = some q → Op.bytesLess p.1 q.1 = true
open Classical in
/-- What a building answers. -/
noncomputable def buildR (every : Int) (l : List KV) : List UInt8 × Int :=
  if every < 1 ∨ 64 < every ∨ 20000 < l.length then ([], 1) else if Rises l l.length then (builtB every.toNat l, 0) else ([], 10)
/-- Few pairs, with few bytes. -/
def FewP (l : List KV) : Prop := l.length ≤ 2000 ∧ ∀ p ∈ l, p.1.length ≤ 1000 ∧ p.2.length ≤ 5000

theorem entryB_len (n : Nat) (p : KV) : (entryB n p).length ≤ p.1.length + p.2.length + 33 := by
  unfold entryB
  have h1 := numB_len n
  have h2 := textB_len (p.1.drop n)
  have h3 := textB_len p.2
  have h4 : (p.1.drop n).length ≤ p.1.length := by rw [List.length_drop]; omega
  simp only [List.length_append]
  omega
set_option maxRecDepth 100000 in
theorem bodyTo_len {every : Nat} {l : List KV} (h : FewP l) (k : Nat) : (bodyTo every l k).1.length ≤ k * 6033 ∧ (bodyTo every l k).2.length ≤ k * 4 := by
  induction k with
  | zero => exact ⟨by rw [Nat.zero_mul]; exact Nat.le_refl 0, by rw [Nat.zero_mul]; exact Nat.le_refl 0⟩
  | succ k ih =>
    rw [bodyTo, Nat.succ_mul, Nat.succ_mul]
    split
    · omega
    · rename_i p hp
      have hm := h.2 p (List.mem_of_getElem? hp)
      have h0 := entryB_len 0 p
      have h1 := entryB_len (comm (prevKey l k) p.1) p
      split
      · simp only [List.length_append, four_len]; omega
      · simp only [List.length_append]; omega
theorem bodyTo_four {every : Nat} {l : List KV} (k : Nat) : (bodyTo every l k).2.length % 4 = 0 := by
  induction k with
  | zero => simp [bodyTo]
  | succ k ih =>
    rw [bodyTo]
    split
    · exact ih
    · split
      · simp only [List.length_append, four_len]; omega
      · exact ih

theorem rises_step {l : List KV} {k : Nat} (h : Rises l k) {p q : KV} (hp : l[k - 1]? = some p) (hq : l[k]? = some q) (hk : 0 < k) (hl : Op.bytesLess p.1 q.1 = true) : Rises l (k + 1) := by
  intro j a b hj ha hb
  by_cases e : j + 1 < k
  · exact h j a b e ha hb
  · have : j + 1 = k := by omega
    subst this
    simp only [Nat.add_sub_cancel] at hp
    rw [hp] at ha; injection ha with ha; subst ha
    rw [hq] at hb; injection hb with hb; subst hb
    exact hl
theorem rises_one (l : List KV) : Rises l 1 := fun j _ _ hj _ _ => by omega
theorem rises_not {l : List KV} {k : Nat} {p q : KV} (hp : l[k - 1]? = some p) (hq : l[k]? = some q) (hk : 0 < k) (hl : Op.bytesLess p.1 q.1 = false) : ¬ Rises l l.length := by
  intro h
  have hlt : k < l.length := (List.getElem?_eq_some_iff.1 hq).1
  have := h (k - 1) p q (by omega) hp (by rw [show k - 1 + 1 = k by omega]; exact hq)
  rw [hl] at this
  cases this
end Go.Proofs.Yteagjjiggneheaa
