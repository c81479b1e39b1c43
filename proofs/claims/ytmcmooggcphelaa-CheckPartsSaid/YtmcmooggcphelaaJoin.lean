/-
  Two sums joined, a sum cut off (check.Join, check.Cut) and the reference's: what they compute.
-/
import Derived.Test.YtmcmooggcphelaaSum
namespace Go.Proofs.Ytmcmooggcphelaa
open Go.RowKit
set_option linter.unusedVariables false

/-- May two sums and a length be joined, or cut? -/
def okJ (a b n : Int) : Bool := decide (a < 2147483647) && decide (b < 2147483647) && decide (0 ≤ n) && decide (n ≤ 1048576)
/-- What Join answers. -/
def joinR (a b n : Int) : Int × Int := if okJ a b n = true then ((a * (powM 16807 n.toNat : Int) + b) % 2147483647, 0) else (0, 1)
/-- What Cut answers. -/
def cutR (a b n : Int) : Int × Int := if okJ a b n = true then ((a + 2147483647 - b) % 2147483647 * (powM 1407677000 n.toNat : Int) % 2147483647, 0) else (0, 1)

theorem joinR_ok {a b n : Int} (h : okJ a b n = true) : joinR a b n = ((a * (powM 16807 n.toNat : Int) + b) % 2147483647, 0) := if_pos h
theorem joinR_no {a b n : Int} (h : okJ a b n = false) : joinR a b n = (0, 1) := if_neg (by rw [h]; exact Bool.false_ne_true)
theorem cutR_ok {a b n : Int} (h : okJ a b n = true) : cutR a b n = ((a + 2147483647 - b) % 2147483647 * (powM 1407677000 n.toNat : Int) % 2147483647, 0) := if_pos h
theorem cutR_no {a b n : Int} (h : okJ a b n = false) : cutR a b n = (0, 1) := if_neg (by rw [h]; exact Bool.false_ne_true)

/-- The ways of the test. -/
theorem okJ_ways (a b n : Int) : (okJ a b n = true ∧ a < 2147483647 ∧ b < 2147483647 ∧ 0 ≤ n ∧ n ≤ 1048576) ∨ (okJ a b n = false ∧ 2147483647 ≤ a) ∨ (okJ a b n = false ∧ a < 2147483647 ∧ 2147483647 ≤ b) ∨
    (okJ a b n = false ∧ a < 2147483647 ∧ b < 2147483647 ∧ n < 0) ∨ (okJ a b n = false ∧ a < 2147483647 ∧ b < 2147483647 ∧ 0 ≤ n ∧ 1048576 < n) := by
  unfold okJ
  by_cases h1 : a < 2147483647
  · by_cases h2 : b < 2147483647
    · by_cases h3 : 0 ≤ n
      · by_cases h4 : n ≤ 1048576
        · exact .inl ⟨by simp [h1, h2, h3, h4], h1, h2, h3, h4⟩
        · exact .inr (.inr (.inr (.inr ⟨by simp [h4], h1, h2, h3, by omega⟩)))
      · exact .inr (.inr (.inr (.inl ⟨by simp [h3], h1, h2, by omega⟩)))
    · exact .inr (.inr (.inl ⟨by simp [h2], h1, by omega⟩))
  · exact .inr (.inl ⟨by simp [h1], by omega⟩)

theorem isB_two (a b : Int) : isB [a, b] = (decide (a < 2147483647) && decide (b < 2147483647)) := by simp [isB]

theorem mul_bound {a b : Int} (h0 : 0 ≤ a) (h1 : a < 2147483647) (h2 : 0 ≤ b) (h3 : b < 2147483647) : 0 ≤ a * b ∧ a * b ≤ 4611686014132420609 :=
  ⟨Int.mul_nonneg h0 h2, Int.mul_le_mul (a := a) (b := b) (c := 2147483647) (d := 2147483647) (by omega) (by omega) (by omega) (by omega)⟩

theorem powM_natAbs (b : Nat) (n : Int) : 0 ≤ (powM b n.toNat : Int) ∧ (powM b n.toNat : Int) < 2147483647 := by
  have := powM_lt b n.toNat; omega

theorem power_int (b : Nat) (x n : Int) (w : World) (hx : x = (b : Int)) (hb : b < 2147483647) (h0 : 0 ≤ n) (hn : n < 2147483648) :
    Calls Try.prog 20 #[.int .u64 x, .int .i64 n] w fun e w' => e = .returned (.int .u64 (powM b n.toNat : Int)) ∧ w = w' := by
  subst hx
  obtain ⟨m, rfl⟩ := Int.eq_ofNat_of_zero_le h0
  exact power_any b m w hb (by omega)

theorem join_any (a b n : Int) (w : World) (ha : 0 ≤ a) (ha' : a ≤ 4294967295) (hb : 0 ≤ b) (hb' : b ≤ 4294967295) (hn0 : -9223372036854775808 ≤ n) (hn1 : n ≤ 9223372036854775807) :
    Calls Try.prog 14 #[.int .u32 a, .int .u32 b, .int .i64 n] w fun e w' => e = .returned (.tuple #[.int .u32 (joinR a b n).1, .int .i64 (joinR a b n).2]) ∧ Below w.heap.size w w' := by
  have hnw := Row.new w #[.int .u32 a, .int .u32 b] 22 (0, 0)
  have hbel : Below w.heap.size w (w.alloc (.cells #[.int .u32 a, .int .u32 b] 22)) := Below.alloc (Below.refl w.heap.size w) (Nat.le_refl _) _
  have e1 := isB_two a b
  rcases okJ_ways a b n with ⟨ho, h1, h2, h3, h4⟩ | ⟨ho, h1⟩ | ⟨ho, h1, h2⟩ | ⟨ho, h1, h2, h3⟩ | ⟨ho, h1, h2, h3, h4⟩
  · have hi : isB [a, b] = true := by rw [e1]; simp [h1, h2]
    have HI := hide hi
    have HR := hide (joinR_ok ho)
    clear hi e1 ho
    obtain ⟨p0, p1⟩ := powM_natAbs 16807 n
    generalize hP : (powM 16807 n.toNat : Int) = P at *
    have HP := hide hP
    clear hP
    obtain ⟨q0, q1⟩ := mul_bound ha h1 p0 p1
    go_enter Try.func14, Try.ntmps14
    go_wp2_with (go_at_call 18; refine (is_any _ _ 2 [a, b] _ hnw (by simp) (by simp; omega)).mono ?_; rw [HI.out]; rintro e w' ⟨rfl, rfl⟩)
    clear hnw
    go_wp2_with fail
    refine (power_int 16807 _ _ _ rfl (by omega) (by omega) (by omega)).mono ?_
    rw [HP.out]
    rintro e w' ⟨rfl, rfl⟩
    go_wp2_with (go_at_call 19; refine (rest_any _ _ (by omega) (by omega)).mono ?_; rintro e w' ⟨rfl, rfl⟩)
    go_ret2
    exact ⟨by rw [HR.out]; rfl, hbel⟩
  · have hi : isB [a, b] = false := by rw [e1]; simp; omega
    have HI := hide hi
    have HR := hide (joinR_no ho)
    clear hi e1 ho
    go_enter Try.func14, Try.ntmps14
    go_wp2_with (go_at_call 18; refine (is_any _ _ 2 [a, b] _ hnw (by simp) (by simp; omega)).mono ?_; rw [HI.out]; rintro e w' ⟨rfl, rfl⟩)
    go_ret2
    exact ⟨by rw [HR.out]; rfl, hbel⟩
  · have hi : isB [a, b] = false := by rw [e1]; simp; omega
    have HI := hide hi
    have HR := hide (joinR_no ho)
    clear hi e1 ho
    go_enter Try.func14, Try.ntmps14
    go_wp2_with (go_at_call 18; refine (is_any _ _ 2 [a, b] _ hnw (by simp) (by simp; omega)).mono ?_; rw [HI.out]; rintro e w' ⟨rfl, rfl⟩)
    go_ret2
    exact ⟨by rw [HR.out]; rfl, hbel⟩
  all_goals
    have hi : isB [a, b] = true := by rw [e1]; simp; omega
    have HI := hide hi
    have HR := hide (joinR_no ho)
    clear hi e1 ho
    go_enter Try.func14, Try.ntmps14
    go_wp2_with (go_at_call 18; refine (is_any _ _ 2 [a, b] _ hnw (by simp) (by simp; omega)).mono ?_; rw [HI.out]; rintro e w' ⟨rfl, rfl⟩)
    go_ret2
    exact ⟨by rw [HR.out]; rfl, hbel⟩
theorem cut_any (a b n : Int) (w : World) (ha : 0 ≤ a) (ha' : a ≤ 4294967295) (hb : 0 ≤ b) (hb' : b ≤ 4294967295) (hn0 : -9223372036854775808 ≤ n) (hn1 : n ≤ 9223372036854775807) :
    Calls Try.prog 16 #[.int .u32 a, .int .u32 b, .int .i64 n] w fun e w' => e = .returned (.tuple #[.int .u32 (cutR a b n).1, .int .i64 (cutR a b n).2]) ∧ Below w.heap.size w w' := by
  have hnw := Row.new w #[.int .u32 a, .int .u32 b] 22 (0, 0)
  have hbel : Below w.heap.size w (w.alloc (.cells #[.int .u32 a, .int .u32 b] 22)) := Below.alloc (Below.refl w.heap.size w) (Nat.le_refl _) _
  have e1 := isB_two a b
  rcases okJ_ways a b n with ⟨ho, h1, h2, h3, h4⟩ | ⟨ho, h1⟩ | ⟨ho, h1, h2⟩ | ⟨ho, h1, h2, h3⟩ | ⟨ho, h1, h2, h3, h4⟩
  · have hi : isB [a, b] = true := by rw [e1]; simp [h1, h2]
    have HI := hide hi
    have HR := hide (cutR_ok ho)
    clear hi e1 ho
    obtain ⟨p0, p1⟩ := powM_natAbs 1407677000 n
    generalize hP : (powM 1407677000 n.toNat : Int) = P at *
    have HP := hide hP
    clear hP
    obtain ⟨q0, q1⟩ := mul_bound (a := (a + 2147483647 - b) % 2147483647) (b := P) (by omega) (by omega) p0 p1
    go_enter Try.func16, Try.ntmps16
    go_wp2_with (go_at_call 18; refine (is_any _ _ 2 [a, b] _ hnw (by simp) (by simp; omega)).mono ?_; rw [HI.out]; rintro e w' ⟨rfl, rfl⟩)
    clear hnw
    go_wp2_with fail
    refine (rest_any _ _ (by omega) (by omega)).mono ?_
    rintro e w' ⟨rfl, rfl⟩
    go_wp2_with fail
    refine (power_int 1407677000 _ _ _ rfl (by omega) (by omega) (by omega)).mono ?_
    rw [HP.out]
    rintro e w' ⟨rfl, rfl⟩
    go_wp2_with (go_at_call 19; refine (rest_any _ _ (by omega) (by omega)).mono ?_; rintro e w' ⟨rfl, rfl⟩)
    go_ret2
    exact ⟨by rw [HR.out]; rfl, hbel⟩
  · have hi : isB [a, b] = false := by rw [e1]; simp; omega
    have HI := hide hi
    have HR := hide (cutR_no ho)
    clear hi e1 ho
    go_enter Try.func16, Try.ntmps16
    go_wp2_with (go_at_call 18; refine (is_any _ _ 2 [a, b] _ hnw (by simp) (by simp; omega)).mono ?_; rw [HI.out]; rintro e w' ⟨rfl, rfl⟩)
    go_ret2
    exact ⟨by rw [HR.out]; rfl, hbel⟩
  · have hi : isB [a, b] = false := by rw [e1]; simp; omega
    have HI := hide hi
    have HR := hide (cutR_no ho)
    clear hi e1 ho
    go_enter Try.func16, Try.ntmps16
    go_wp2_with (go_at_call 18; refine (is_any _ _ 2 [a, b] _ hnw (by simp) (by simp; omega)).mono ?_; rw [HI.out]; rintro e w' ⟨rfl, rfl⟩)
    go_ret2
    exact ⟨by rw [HR.out]; rfl, hbel⟩
  all_goals
    have hi : isB [a, b] = true := by rw [e1]; simp; omega
    have HI := hide hi
    have HR := hide (cutR_no ho)
    clear hi e1 ho
    go_enter Try.func16, Try.ntmps16
    go_wp2_with (go_at_call 18; refine (is_any _ _ 2 [a, b] _ hnw (by simp) (by simp; omega)).mono ?_; rw [HI.out]; rintro e w' ⟨rfl, rfl⟩)
    go_ret2
    exact ⟨by rw [HR.out]; rfl, hbel⟩

theorem rpower_any (n : Int) (w : World) (h0 : 0 ≤ n) (hn : n ≤ 1048576) :
    Calls Try.prog 21 #[.int .i64 n] w fun e w' => e = .returned (.int .u64 (powM 16807 n.toNat : Int)) ∧ w = w' := by
  obtain ⟨m, rfl⟩ := Int.eq_ofNat_of_zero_le h0
  rw [Int.toNat_natCast]
  go_enter Try.func21, Try.ntmps21
  go_wp2
  go_loop [3, 4] (fun t i => ∃ k : Nat, k ≤ m ∧ i = .int .i64 (k : Int) ∧ t = .int .u64 (powM 16807 k : Int)) (fun _ i => m - (intOf i).toNat)
  case atStart => exact ⟨0, Nat.zero_le _, rfl, rfl⟩
  case round =>
    obtain ⟨k, hk, rfl, rfl⟩ := hrel
    have hs : ((powM 16807 (k + 1) : Nat) : Int) = (powM 16807 k : Int) * 16807 % 2147483647 := by rw [powM_succ]; simp
    obtain ⟨p0, p1⟩ := powM_natAbs 16807 (k : Int)
    rw [Int.toNat_natCast] at p0 p1
    generalize hP : (powM 16807 k : Int) = P at *
    have HP := hide hP
    have HS := hide hs
    clear hP hs
    by_cases hlt : k < m
    · go_wp2
      go_round
      case rel => exact ⟨k + 1, by omega, by go_num, by rw [HS.out]⟩
      case measure => simp [intOf]; omega
    · go_wp2
      go_ret
      have : k = m := by omega
      subst this
      exact ⟨by rw [HP.out]; rfl, rfl⟩

theorem rjoin_any (a b n : Int) (w : World) (ha : 0 ≤ a) (ha' : a ≤ 4294967295) (hb : 0 ≤ b) (hb' : b ≤ 4294967295) (hn0 : -9223372036854775808 ≤ n) (hn1 : n ≤ 9223372036854775807) :
    Calls Try.prog 15 #[.int .u32 a, .int .u32 b, .int .i64 n] w fun e w' => e = .returned (.tuple #[.int .u32 (joinR a b n).1, .int .i64 (joinR a b n).2]) ∧ w = w' := by
  rcases okJ_ways a b n with ⟨ho, h1, h2, h3, h4⟩ | ⟨ho, h1⟩ | ⟨ho, h1, h2⟩ | ⟨ho, h1, h2, h3⟩ | ⟨ho, h1, h2, h3, h4⟩
  · have HR := hide (joinR_ok ho)
    clear ho
    obtain ⟨p0, p1⟩ := powM_natAbs 16807 n
    generalize hP : (powM 16807 n.toNat : Int) = P at *
    have HP := hide hP
    clear hP
    obtain ⟨q0, q1⟩ := mul_bound ha h1 p0 p1
    go_enter Try.func15, Try.ntmps15
    go_wp2_with fail
    refine (rpower_any _ _ (by omega) (by omega)).mono ?_
    rw [HP.out]
    rintro e w' ⟨rfl, rfl⟩
    go_wp2_with fail
    go_ret2
    exact ⟨by rw [HR.out]; rfl, rfl⟩
  all_goals
    have HR := hide (joinR_no ho)
    clear ho
    go_enter Try.func15, Try.ntmps15
    go_wp2
    go_ret2
    exact ⟨by rw [HR.out]; rfl, rfl⟩

/-- What is cut, k rounds done. -/
def cutTo (x : Int) (k : Nat) : Int := x * (powM 1407677000 k : Int) % 2147483647
theorem cutTo_zero {x : Int} (h0 : 0 ≤ x) (h1 : x < 2147483647) : cutTo x 0 = x := by unfold cutTo; rw [powM_zero]; omega
theorem cutTo_succ (x : Int) (k : Nat) : cutTo x (k + 1) = cutTo x k * 1407677000 % 2147483647 := by
  unfold cutTo
  rw [powM_succ]
  simp only [Int.natCast_emod, Int.natCast_mul, Int.cast_ofNat_Int]
  have e1 : ∀ y z : Int, y * (z % 2147483647) % 2147483647 = y * z % 2147483647 := fun y z => by rw [Int.mul_emod y (z % 2147483647), Int.emod_emod, ← Int.mul_emod]
  have e2 : ∀ y z : Int, y % 2147483647 * z % 2147483647 = y * z % 2147483647 := fun y z => by rw [Int.mul_emod (y % 2147483647) z, Int.emod_emod, ← Int.mul_emod]
  rw [e1, e2, Int.mul_assoc]
theorem cutTo_bd (x : Int) (k : Nat) : 0 ≤ cutTo x k ∧ cutTo x k < 2147483647 := by unfold cutTo; omega

theorem rcut_any (a b n : Int) (w : World) (ha : 0 ≤ a) (ha' : a ≤ 4294967295) (hb : 0 ≤ b) (hb' : b ≤ 4294967295) (hn0 : -9223372036854775808 ≤ n) (hn1 : n ≤ 9223372036854775807) :
    Calls Try.prog 17 #[.int .u32 a, .int .u32 b, .int .i64 n] w fun e w' => e = .returned (.tuple #[.int .u32 (cutR a b n).1, .int .i64 (cutR a b n).2]) ∧ w = w' := by
  rcases okJ_ways a b n with ⟨ho, h1, h2, h3, h4⟩ | ⟨ho, h1⟩ | ⟨ho, h1, h2⟩ | ⟨ho, h1, h2, h3⟩ | ⟨ho, h1, h2, h3, h4⟩
  · have HR := hide (cutR_ok ho)
    clear ho
    obtain ⟨m, rfl⟩ := Int.eq_ofNat_of_zero_le h3
    rw [Int.toNat_natCast] at HR
    go_enter Try.func17, Try.ntmps17
    go_wp2
    generalize hX : (a + 2147483647 - b) % 2147483647 = X at *
    have x0 : 0 ≤ X := by omega
    have x1 : X < 2147483647 := by omega
    clear hX
    go_loop [8, 9] (fun t i => ∃ k : Nat, k ≤ m ∧ i = .int .i64 (k : Int) ∧ t = .int .u64 (cutTo X k)) (fun _ i => m - (intOf i).toNat)
    case atStart => exact ⟨0, Nat.zero_le _, rfl, by rw [cutTo_zero x0 x1]⟩
    case round =>
      obtain ⟨k, hk, rfl, rfl⟩ := hrel
      have hs := cutTo_succ X k
      obtain ⟨p0, p1⟩ := cutTo_bd X k
      generalize hP : cutTo X k = P at *
      have HP := hide hP
      have HS := hide hs
      clear hP hs
      by_cases hlt : k < m
      · go_wp2
        go_round
        case rel => exact ⟨k + 1, by omega, by go_num, by rw [HS.out]⟩
        case measure => simp [intOf]; omega
      · go_wp2
        go_ret2
        have : k = m := by omega
        subst this
        exact ⟨by rw [HR.out, ← HP.out]; rfl, rfl⟩
  all_goals
    have HR := hide (cutR_no ho)
    clear ho
    go_enter Try.func17, Try.ntmps17
    go_wp2
    go_ret2
    exact ⟨by rw [HR.out]; rfl, rfl⟩
end Go.Proofs.Ytmcmooggcphelaa
