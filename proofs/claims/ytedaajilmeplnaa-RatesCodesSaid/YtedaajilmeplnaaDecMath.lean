/-
  Schedules decoded, in plain Lean.
-/
import Derived.Test.YtedaajilmeplnaaRatesMath
import Derived.Test.YtedaajilmeplnaaCodeLaw
namespace Go.Proofs.Ytedaajilmeplnaa
set_option linter.unusedVariables false

/-- The numbers that bytes are, all of them. -/
def allN : Nat → List UInt8 → Option (List Int)
  | 0, b => if b = [] then some [] else none
  | f + 1, b => if b = [] then some [] else match takeN b with
    | none => none
    | some (n, r) => if n ≤ 1125899906842624 then (allN f r).map ((n : Int) :: ·) else none
def numsIn (b : List UInt8) : Option (List Int) := allN b.length b

theorem takeN_less {b : List UInt8} {n : Nat} {r : List UInt8} (h : takeN b = some (n, r)) : r.length < b.length := by
  obtain ⟨p, h1, h2⟩ := takeN_suffix h
  rw [h1, List.length_append]
  have : 0 < p.length := by cases p with | nil => exact absurd rfl h2 | cons _ _ => simp
  omega
theorem allN_fuel {f g : Nat} {b : List UInt8} (hf : b.length ≤ f) (hg : b.length ≤ g) : allN f b = allN g b := by
  induction f generalizing b g with
  | zero =>
    have : b = [] := List.eq_nil_of_length_eq_zero (by omega)
    subst this
    cases g <;> simp [allN]
  | succ f ih =>
    cases g with
    | zero =>
      have : b = [] := List.eq_nil_of_length_eq_zero (by omega)
      subst this
      simp [allN]
    | succ g =>
      unfold allN
      by_cases hb : b = []
      · rw [if_pos hb, if_pos hb]
      · rw [if_neg hb, if_neg hb]
        cases ht : takeN b with
        | none => rfl
        | some x =>
          obtain ⟨n, r⟩ := x
          have := takeN_less ht
          simp only
          rw [ih (b := r) (g := g) (by omega) (by omega)]
theorem numsIn_nil : numsIn [] = some [] := rfl
theorem numsIn_none {b : List UInt8} (hb : b ≠ []) (h : takeN b = none) : numsIn b = none := by
  unfold numsIn
  cases b with
  | nil => exact absurd rfl hb
  | cons x b => simp [allN, h]
theorem numsIn_big {b : List UInt8} {n : Nat} {r : List UInt8} (h : takeN b = some (n, r)) (hn : ¬ n ≤ 1125899906842624) : numsIn b = none := by
  unfold numsIn
  cases b with
  | nil => have := takeN_less h; simp at this
  | cons x b =>
    show allN (b.length + 1) (x :: b) = none
    unfold allN
    rw [if_neg (by simp), h]
    exact if_neg hn
theorem numsIn_step {b : List UInt8} {n : Nat} {r : List UInt8} (h : takeN b = some (n, r)) (hn : n ≤ 1125899906842624) : numsIn b = (numsIn r).map ((n : Int) :: ·) := by
  have hl := takeN_less h
  unfold numsIn
  cases b with
  | nil => simp at hl
  | cons x b =>
    show allN (b.length + 1) (x :: b) = _
    conv => lhs; unfold allN
    rw [if_neg (by simp), h]
    simp only
    rw [if_pos hn, allN_fuel (f := b.length) (g := r.length) (by simp at hl; omega) (Nat.le_refl _)]

/-- The pairs of a list. -/
def pairsOf : List Int → List (Int × Int)
  | a :: b :: r => (a, b) :: pairsOf r
  | _ => []
/-- May numbers be a schedule's? -/
def shapeB (l : List Int) : Bool := decide (6 ≤ l.length) && decide (l.headD 0 ≤ 10) && decide ((l.length : Int) = 6 + 2 * l.headD 0)
/-- The schedule that numbers are. -/
def schOf (l : List Int) : Sch := ⟨pairsOf ((l.drop 1).take (l.length - 6)), l.getD (l.length - 5) 0, l.getD (l.length - 4) 0, l.getD (l.length - 3) 0, l.getD (l.length - 2) 0, l.getD (l.length - 1) 0⟩
def schZ : Sch := ⟨[], 0, 0, 0, 0, 0⟩
/-- What a decoding answers. -/
def decR (b : List UInt8) : Sch × Int := match numsIn b with
  | none => (schZ, 3)
  | some l => if shapeB l = true ∧ (schOf l).right = true then (schOf l, 0) else (schZ, 3)
theorem decR_none {b : List UInt8} (h : numsIn b = none) : decR b = (schZ, 3) := by unfold decR; rw [h]
theorem decR_no {b : List UInt8} {l : List Int} (h : numsIn b = some l) (hs : ¬ (shapeB l = true ∧ (schOf l).right = true)) : decR b = (schZ, 3) := by unfold decR; rw [h]; exact if_neg hs
theorem decR_yes {b : List UInt8} {l : List Int} (h : numsIn b = some l) (hs : shapeB l = true ∧ (schOf l).right = true) : decR b = (schOf l, 0) := by unfold decR; rw [h]; exact if_pos hs
/-- Too many numbers are no schedule. -/
theorem decR_long {b r : List UInt8} {l : List Int} (h : numsIn b = (numsIn r).map (l ++ ·)) (hl : 26 < l.length) : decR b = (schZ, 3) := by
  cases hr : numsIn r with
  | none => rw [hr] at h; exact decR_none h
  | some m =>
    rw [hr] at h
    refine decR_no h ?_
    rintro ⟨hs, -⟩
    unfold shapeB at hs
    simp only [Bool.and_eq_true, decide_eq_true_eq, List.length_append] at hs
    have h1 := hs.1.2
    have h2 := hs.2
    omega
/-- Numbers that were put are taken. -/
theorem numsIn_put (l : List Int) (hl : ∀ x ∈ l, 0 ≤ x ∧ x ≤ 1125899906842624) : numsIn (l.flatMap fun x => numB x.toNat) = some l := by
  induction l with
  | nil => rfl
  | cons x l ih =>
    have hx := hl x (by simp)
    rw [List.flatMap_cons]
    rw [numsIn_step (takeN_num (n := x.toNat) (by omega) _) (by omega), ih (fun y hy => hl y (by simp [hy]))]
    simp
    omega
end Go.Proofs.Ytedaajilmeplnaa
