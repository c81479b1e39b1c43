/-
  Schedules in plain Lean: which may be, what they tax.
-/
namespace Go.Proofs.Ytedaajilmeplnaa

/-- Is a number money? -/
def moneyB (xs : List Int) : Bool := xs.all fun x => decide (0 ≤ x) && decide (x ≤ 1125899906842624)

/-- May brackets behind one be? -/
def brsOk : Int → List (Int × Int) → Bool
  | _, [] => true
  | last, b :: r => (moneyB [b.1] && decide (last < b.1) && decide (0 ≤ b.2) && decide (b.2 ≤ 10000)) && brsOk b.1 r

/-- A schedule. -/
structure Sch where
  brs : List (Int × Int)
  ded : Int
  cred : Int
  lbp : Int
  lmost : Int
  lleast : Int

def Sch.sizes (s : Sch) : Bool := decide (1 ≤ s.brs.length) && decide (s.brs.length ≤ 10) && decide (0 ≤ s.lbp) && decide (s.lbp ≤ 10000) && decide (0 ≤ s.lmost) && decide (s.lmost ≤ 60)
def headZero : List (Int × Int) → Bool
  | [] => false
  | b :: _ => decide (b.1 = 0)
/-- May a schedule be? -/
def Sch.right (s : Sch) : Bool := s.sizes && brsOk (-1) s.brs && headZero s.brs && moneyB [s.ded, s.cred, s.lleast]

theorem moneyB_nil : moneyB [] = true := rfl
theorem moneyB_cons (x : Int) (xs : List Int) : moneyB (x :: xs) = ((decide (0 ≤ x) && decide (x ≤ 1125899906842624)) && moneyB xs) := rfl
theorem moneyB_one {x : Int} : moneyB [x] = true ↔ 0 ≤ x ∧ x ≤ 1125899906842624 := by simp [moneyB]
theorem moneyB_three {x y z : Int} : moneyB [x, y, z] = true ↔ (0 ≤ x ∧ x ≤ 1125899906842624) ∧ (0 ≤ y ∧ y ≤ 1125899906842624) ∧ (0 ≤ z ∧ z ≤ 1125899906842624) := by simp [moneyB, and_assoc]

/-- Where the next bracket begins, or what is asked. -/
def upTo (r : List (Int × Int)) (x : Int) : Int := match r with
  | [] => x
  | b :: _ => min x b.1

/-- The parts of the units taxed by brackets: ten thousand times the tax. -/
def sumS : List (Int × Int) → Int → Int
  | [], _ => 0
  | b :: r, x => max 0 (upTo r x - b.1) * b.2 + sumS r x

/-- What is taxed of an income. -/
def Sch.part (s : Sch) (x : Int) : Int := max (x - s.ded) 0
/-- The tax of an income. -/
def Sch.tax (s : Sch) (x : Int) : Int := max (sumS s.brs (s.part x) / 10000 - s.cred) 0
def Sch.ok (s : Sch) (x : Int) : Bool := s.right && moneyB [x]

theorem brsOk_get {brs : List (Int × Int)} {lv : Int} (h : brsOk lv brs = true) {j : Nat} {f p : Int} (hj : brs[j]? = some (f, p)) :
    lv < f ∧ 0 ≤ f ∧ f ≤ 1125899906842624 ∧ 0 ≤ p ∧ p ≤ 10000 ∧ brsOk f (brs.drop (j + 1)) = true := by
  induction brs generalizing lv j with
  | nil => simp at hj
  | cons b r ih =>
    simp only [brsOk, Bool.and_eq_true, decide_eq_true_eq] at h
    obtain ⟨⟨⟨⟨h1, h2⟩, h3⟩, h4⟩, h5⟩ := h
    have h1' := moneyB_one.1 h1
    cases j with
    | zero =>
      simp only [List.getElem?_cons_zero, Option.some.injEq] at hj
      subst hj
      exact ⟨h2, h1'.1, h1'.2, h3, h4, h5⟩
    | succ j =>
      simp only [List.getElem?_cons_succ] at hj
      have := ih h5 hj
      exact ⟨by omega, this.2.1, this.2.2.1, this.2.2.2.1, this.2.2.2.2.1, this.2.2.2.2.2⟩

theorem drop_get {α : Type} {l : List α} {j : Nat} {x : α} (h : l[j]? = some x) : l.drop j = x :: l.drop (j + 1) := by
  have hk : j < l.length := (List.getElem?_eq_some_iff.1 h).1
  have hx : l[j] = x := (List.getElem?_eq_some_iff.1 h).2
  rw [← hx, ← List.drop_eq_getElem_cons hk]

/-- A bracket, from above. -/
theorem tax_step {brs : List (Int × Int)} {lv : Int} (hok : brsOk lv brs = true) {j : Nat} {f p : Int} (hj : brs[j]? = some (f, p)) (x : Int) :
    (upTo (brs.drop (j + 1)) x ≤ f → upTo (brs.drop j) x = upTo (brs.drop (j + 1)) x ∧ sumS (brs.drop j) x = sumS (brs.drop (j + 1)) x) ∧
    (f < upTo (brs.drop (j + 1)) x → upTo (brs.drop j) x = f ∧ sumS (brs.drop j) x = (upTo (brs.drop (j + 1)) x - f) * p + sumS (brs.drop (j + 1)) x) := by
  obtain ⟨_, _, _, _, _, hr⟩ := brsOk_get hok hj
  have hd := drop_get hj
  rw [hd]
  generalize brs.drop (j + 1) = r at *
  have hL : upTo r x ≤ x := by unfold upTo; split <;> omega
  constructor
  · intro hle
    refine ⟨?_, ?_⟩
    · show min x f = upTo r x
      cases r with
      | nil => show min x f = x; have : x ≤ f := hle; omega
      | cons b t =>
        simp only [brsOk, Bool.and_eq_true, decide_eq_true_eq] at hr
        have h1 : upTo (b :: t) x = min x b.1 := rfl
        rw [h1] at hle ⊢
        omega
    · show max 0 (upTo r x - f) * p + sumS r x = _
      rw [show max 0 (upTo r x - f) = 0 by omega, Int.zero_mul, Int.zero_add]
  · intro hlt
    refine ⟨?_, ?_⟩
    · show min x f = f; omega
    · show max 0 (upTo r x - f) * p + sumS r x = _
      rw [show max 0 (upTo r x - f) = upTo r x - f by omega]

/-- What is taken of a bracket: units and parts. -/
theorem taken (d p : Int) (hd : 0 ≤ d) (hp : 0 ≤ p) (hp' : p ≤ 10000) :
    d / 10000 * p * 10000 + d % 10000 * p = d * p ∧ 0 ≤ d / 10000 * p ∧ d / 10000 * p ≤ d ∧ 0 ≤ d % 10000 * p ∧ d % 10000 * p ≤ 100000000 := by
  have hq : 0 ≤ d / 10000 := by omega
  have hr0 : 0 ≤ d % 10000 := by omega
  have hr1 : d % 10000 < 10000 := by omega
  have he : d = d / 10000 * 10000 + d % 10000 := by omega
  generalize d / 10000 = q at *
  generalize d % 10000 = r at *
  subst he
  refine ⟨by rw [Int.add_mul, Int.mul_assoc q p, Int.mul_assoc q 10000, Int.mul_comm p 10000], Int.mul_nonneg hq hp, ?_, Int.mul_nonneg hr0 hp, ?_⟩
  · have := Int.mul_le_mul_of_nonneg_left hp' hq
    omega
  · have h1 := Int.mul_le_mul (Int.le_of_lt hr1) hp' hp (by omega)
    omega

theorem upTo_le (r : List (Int × Int)) (x : Int) : upTo r x ≤ x := by unfold upTo; split <;> omega
end Go.Proofs.Ytedaajilmeplnaa
