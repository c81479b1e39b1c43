/-
  The plain law of schedules: a tax rises with the income, by no more than it; it joins; by one rate it is that part.
-/
import Derived.Test.YtedaajilmeplnaaRatesMath
namespace Go.Proofs.Ytedaajilmeplnaa
set_option linter.unusedVariables false

theorem right_parts {s : Sch} (h : s.right = true) : 0 ≤ s.ded ∧ s.ded ≤ 1125899906842624 ∧ 0 ≤ s.cred ∧ s.cred ≤ 1125899906842624 ∧ brsOk (-1) s.brs = true := by
  unfold Sch.right at h
  simp only [Bool.and_eq_true] at h
  have h1 := moneyB_three.1 h.2
  exact ⟨h1.1.1, h1.1.2, h1.2.1.1, h1.2.1.2, h.1.1.2⟩

theorem sumS_zero {lv : Int} {brs : List (Int × Int)} (h : brsOk lv brs = true) : sumS brs 0 = 0 := by
  induction brs generalizing lv with
  | nil => rfl
  | cons b r ih =>
    simp only [brsOk, Bool.and_eq_true, decide_eq_true_eq] at h
    have hf := (moneyB_one.1 h.1.1.1.1).1
    have hL := upTo_le r 0
    show max 0 (upTo r 0 - b.1) * b.2 + sumS r 0 = 0
    rw [ih h.2, show max 0 (upTo r 0 - b.1) = 0 by omega]
    simp

/-- How much more of an income lies above the first bracket's beginning. -/
def moreUp (brs : List (Int × Int)) (a b : Int) : Int := match brs with
  | [] => 0
  | f :: _ => max 0 (b - f.1) - max 0 (a - f.1)

theorem sumS_rise {lv : Int} {brs : List (Int × Int)} (h : brsOk lv brs = true) {a b : Int} (hab : a ≤ b) : 0 ≤ sumS brs b - sumS brs a ∧ sumS brs b - sumS brs a ≤ 10000 * moreUp brs a b := by
  induction brs generalizing lv with
  | nil => simp [sumS, moreUp]
  | cons c r ih =>
    simp only [brsOk, Bool.and_eq_true, decide_eq_true_eq] at h
    obtain ⟨i1, i2⟩ := ih h.2
    have hp0 := h.1.1.2
    have hp1 := h.1.2
    have hM : 0 ≤ max 0 (upTo r b - c.1) - max 0 (upTo r a - c.1) ∧ max 0 (upTo r b - c.1) - max 0 (upTo r a - c.1) + moreUp r a b = moreUp (c :: r) a b := by
      cases r with
      | nil => simp only [upTo, moreUp]; omega
      | cons d t =>
        have := h.2
        simp only [brsOk, Bool.and_eq_true, decide_eq_true_eq] at this
        have h1 := this.1.1.1.2
        simp only [upTo, moreUp]
        omega
    have e : sumS (c :: r) b - sumS (c :: r) a = (max 0 (upTo r b - c.1) - max 0 (upTo r a - c.1)) * c.2 + (sumS r b - sumS r a) := by
      show max 0 (upTo r b - c.1) * c.2 + sumS r b - (max 0 (upTo r a - c.1) * c.2 + sumS r a) = _
      rw [Int.sub_mul]
      omega
    rw [e]
    generalize max 0 (upTo r b - c.1) - max 0 (upTo r a - c.1) = M at *
    have m1 : 0 ≤ M * c.2 := Int.mul_nonneg hM.1 hp0
    have m2 : M * c.2 ≤ M * 10000 := Int.mul_le_mul_of_nonneg_left hp1 hM.1
    omega

theorem moreUp_le (brs : List (Int × Int)) {a b : Int} (hab : a ≤ b) : moreUp brs a b ≤ b - a := by
  unfold moreUp; split <;> omega

theorem tax_rises {s : Sch} (h : s.right = true) {a b : Int} (ha : 0 ≤ a) (hab : a ≤ b) : 0 ≤ s.tax a ∧ s.tax a ≤ a ∧ s.tax b ≤ b ∧ s.tax a ≤ s.tax b ∧ s.tax b - s.tax a ≤ b - a := by
  obtain ⟨d0, _, c0, _, hok⟩ := right_parts h
  have hp : s.part a ≤ s.part b := by unfold Sch.part; omega
  have hpa : 0 ≤ s.part a := by unfold Sch.part; omega
  have hpd : s.part b - s.part a ≤ b - a := by unfold Sch.part; omega
  have hpb : s.part a ≤ a := by unfold Sch.part; omega
  have hpb' : s.part b ≤ b := by unfold Sch.part; omega
  have z := sumS_zero hok
  have r1 := sumS_rise hok hp
  have r2 := sumS_rise hok hpa
  have m1 := moreUp_le s.brs hp
  have m2 := moreUp_le s.brs hpa
  rw [z] at r2
  unfold Sch.tax
  generalize sumS s.brs (s.part a) = x at *
  generalize sumS s.brs (s.part b) = y at *
  generalize moreUp s.brs (s.part a) (s.part b) = u at *
  generalize moreUp s.brs 0 (s.part a) = v at *
  omega

/-- Do the rates not fall? -/
def rising : List (Int × Int) → Prop
  | [] => True
  | [_] => True
  | b :: c :: r => b.2 ≤ c.2 ∧ rising (c :: r)

/-- The same sum by what each rate has more than the one ahead. -/
def byMore : Int → List (Int × Int) → Int → Int
  | _, [], _ => 0
  | q, b :: r, x => (b.2 - q) * max 0 (x - b.1) + byMore b.2 r x

theorem byMore_eq {lv : Int} {brs : List (Int × Int)} (h : brsOk lv brs = true) (q x : Int) : byMore q brs x = sumS brs x - (match brs with | [] => 0 | b :: _ => q * max 0 (x - b.1)) := by
  induction brs generalizing lv q with
  | nil => rfl
  | cons b r ih =>
    simp only [brsOk, Bool.and_eq_true, decide_eq_true_eq] at h
    have i := ih h.2 b.2
    show (b.2 - q) * max 0 (x - b.1) + byMore b.2 r x = max 0 (upTo r x - b.1) * b.2 + sumS r x - q * max 0 (x - b.1)
    rw [i, Int.sub_mul]
    cases r with
    | nil =>
      show b.2 * max 0 (x - b.1) - q * max 0 (x - b.1) + (sumS [] x - 0) = max 0 (x - b.1) * b.2 + sumS [] x - q * max 0 (x - b.1)
      rw [Int.mul_comm (max 0 (x - b.1)) b.2]
      omega
    | cons c t =>
      have h2 := h.2
      simp only [brsOk, Bool.and_eq_true, decide_eq_true_eq] at h2
      have hlt := h2.1.1.1.2
      show b.2 * max 0 (x - b.1) - q * max 0 (x - b.1) + (sumS (c :: t) x - b.2 * max 0 (x - c.1)) = max 0 (min x c.1 - b.1) * b.2 + sumS (c :: t) x - q * max 0 (x - b.1)
      have e : max 0 (min x c.1 - b.1) = max 0 (x - b.1) - max 0 (x - c.1) := by omega
      rw [e, Int.mul_comm _ b.2, Int.mul_sub]
      omega

theorem byMore_joins {lv : Int} {brs : List (Int × Int)} (h : brsOk lv brs = true) (hr : rising brs) (q : Int) (hq : ∀ b r, brs = b :: r → q ≤ b.2) {x y : Int} (hx : 0 ≤ x) (hy : 0 ≤ y) :
    byMore q brs x + byMore q brs y ≤ byMore q brs (x + y) := by
  induction brs generalizing lv q with
  | nil => simp [byMore]
  | cons b r ih =>
    simp only [brsOk, Bool.and_eq_true, decide_eq_true_eq] at h
    have hf := (moneyB_one.1 h.1.1.1.1).1
    have h1 : 0 ≤ b.2 - q := by have := hq b r rfl; omega
    have hrr : rising r := by
      cases r with
      | nil => trivial
      | cons c t => exact hr.2
    have i := ih h.2 hrr b.2 (fun c t e => by subst e; exact hr.1)
    show (b.2 - q) * max 0 (x - b.1) + byMore b.2 r x + ((b.2 - q) * max 0 (y - b.1) + byMore b.2 r y) ≤ (b.2 - q) * max 0 (x + y - b.1) + byMore b.2 r (x + y)
    have e : max 0 (x - b.1) + max 0 (y - b.1) ≤ max 0 (x + y - b.1) := by omega
    have m := Int.mul_le_mul_of_nonneg_left e h1
    rw [Int.mul_add] at m
    omega

theorem tax_joins {s : Sch} (h : s.right = true) (hd : s.ded = 0) (hc : s.cred = 0) (hr : rising s.brs) {x y : Int} (hx : 0 ≤ x) (hy : 0 ≤ y) : s.tax x + s.tax y ≤ s.tax (x + y) := by
  obtain ⟨_, _, _, _, hok⟩ := right_parts h
  have hq : ∀ b r, s.brs = b :: r → (0 : Int) ≤ b.2 := fun b r e => by
    rw [e] at hok
    simp only [brsOk, Bool.and_eq_true, decide_eq_true_eq] at hok
    exact hok.1.1.2
  have j := byMore_joins hok hr 0 hq hx hy
  have z : ∀ v, byMore 0 s.brs v = sumS s.brs v := fun v => by
    rw [byMore_eq hok]
    split <;> simp
  rw [z, z, z] at j
  have p : ∀ v : Int, 0 ≤ v → s.part v = v := fun v hv => by unfold Sch.part; rw [hd]; omega
  have n : ∀ v : Int, 0 ≤ v → 0 ≤ sumS s.brs v := fun v hv => by
    have := (sumS_rise hok hv).1
    rw [sumS_zero hok] at this
    omega
  have n1 := n x hx
  have n2 := n y hy
  have n3 := n (x + y) (by omega)
  unfold Sch.tax
  rw [p x hx, p y hy, p (x + y) (by omega), hc]
  omega

/-- By one rate. -/
theorem tax_flat (bp x : Int) (hb : 0 ≤ bp) (hx : 0 ≤ x) : Sch.tax ⟨[(0, bp)], 0, 0, 0, 0, 0⟩ x = x / 10000 * bp + x % 10000 * bp / 10000 := by
  have e : Sch.tax ⟨[(0, bp)], 0, 0, 0, 0, 0⟩ x = max ((max 0 (max (x - 0) 0 - 0) * bp + 0) / 10000 - 0) 0 := rfl
  rw [e, show max 0 (max (x - 0) 0 - 0) = x by omega]
  have he : x * bp = x / 10000 * bp * 10000 + x % 10000 * bp := by
    have h1 : x = x / 10000 * 10000 + x % 10000 := by omega
    have h2 : x * bp = (x / 10000 * 10000 + x % 10000) * bp := by rw [← h1]
    rw [h2, Int.add_mul, Int.mul_assoc, Int.mul_assoc, Int.mul_comm 10000 bp]
  have n1 : 0 ≤ x / 10000 * bp := Int.mul_nonneg (by omega) hb
  have n2 : 0 ≤ x % 10000 * bp := Int.mul_nonneg (by omega) hb
  rw [he]
  generalize x / 10000 * bp = u at *
  generalize x % 10000 * bp = v at *
  omega
end Go.Proofs.Ytedaajilmeplnaa
