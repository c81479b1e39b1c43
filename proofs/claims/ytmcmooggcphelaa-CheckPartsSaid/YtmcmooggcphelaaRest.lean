/-
  The check sum's inner functions (rest, power, is): what they compute.
-/
import Derived.Test.YtmcmooggcphelaaBase
import Derived.Test.YtmcmooggcphelaaMathCheck
namespace Go.Proofs.Ytmcmooggcphelaa
open Go.RowKit
set_option linter.unusedVariables false

theorem u64_and_prime (n : Int) (h0 : 0 ≤ n) (h1 : n < 18446744073709551616) : bits .and .u64 n 2147483647 = n % 2147483648 := by
  rw [u64_and n 2147483647 h0 h1 (by omega) (by omega)]
  have : n.toNat &&& (2147483647 : Int).toNat = n.toNat % 2147483648 := nat_mask31 _
  rw [this]; omega

theorem rest_any (n : Int) (w : World) (h0 : 0 ≤ n) (h1 : n ≤ 18446744073709551615) :
    Calls Try.prog 19 #[.int .u64 n] w fun e w' => e = .returned (.int .u64 (n % 2147483647)) ∧ w = w' := by
  go_enter Try.func19, Try.ntmps19
  go_wp2
  go_loop [0] (fun t => ∃ m : Int, 0 ≤ m ∧ m ≤ 18446744073709551615 ∧ m % 2147483647 = n % 2147483647 ∧ t = .int .u64 m) (fun t => (intOf t).toNat)
  case atStart => exact ⟨n, h0, h1, rfl, rfl⟩
  case round =>
    obtain ⟨m, hm0, hm1, hmm, rfl⟩ := hrel
    have Hm := hide hmm
    clear hmm
    have ha : Hid (bits .and .u64 m 2147483647 = m % 2147483648) := u64_and_prime m hm0 (by omega)
    by_cases hlt : 2147483647 < m
    · have hand := ha.out
      go_wp2
      go_round
      case rel => exact ⟨_, by omega, by omega, by have := Hm.out; omega, rfl⟩
      case measure => simp [intOf]; omega
    · go_wp2
      go_ret
      exact ⟨ret_int Hm.out, rfl⟩

/-- The bits of a number that stays at or above 0. -/
theorem i64_bit0 (n : Int) (h0 : 0 ≤ n) (h1 : n ≤ 9223372036854775807) : bits .and .i64 n 1 = n % 2 := by
  obtain ⟨m, rfl⟩ := Int.eq_ofNat_of_zero_le h0
  show IntKind.i64.wrap ((BitVec.ofInt 64 (m : Int) &&& BitVec.ofInt 64 ((1 : Nat) : Int)).toNat : Int) = _
  have e1 : (BitVec.ofInt 64 (m : Int)).toNat = m := by rw [BitVec.ofInt_natCast, BitVec.toNat_ofNat]; exact Nat.mod_eq_of_lt (by omega)
  have e2 : (BitVec.ofInt 64 ((1 : Nat) : Int)).toNat = 1 := by rfl
  rw [BitVec.toNat_and, e1, e2, nat_mask1, IntKind.wrap_i64]
  omega

theorem power_any (b n : Nat) (w : World) (hb : b < 2147483647) (hn : n < 2147483648) :
    Calls Try.prog 20 #[.int .u64 (b : Int), .int .i64 (n : Int)] w fun e w' => e = .returned (.int .u64 (powM b n : Int)) ∧ w = w' := by
  go_enter Try.func20, Try.ntmps20
  go_wp2
  go_loop [0, 5, 7] (fun x y i => ∃ k bk pk : Nat, k ≤ 31 ∧ bk < 2147483647 ∧ pk < 2147483647 ∧ x = .int .u64 (bk : Int) ∧ y = .int .u64 (pk : Int) ∧ i = .int .i64 (k : Int) ∧ pk * powM bk (n / 2 ^ k) % 2147483647 = powM b n) (fun _ _ i => 31 - (intOf i).toNat)
  case atStart => exact ⟨0, b, 1, by omega, hb, by omega, rfl, rfl, rfl, by simp [powM]⟩
  case round =>
    obtain ⟨k, bk, pk, hk, hbk, hpk, rfl, rfl, rfl, hinv⟩ := hrel
    have H := hide hinv
    clear hinv
    have q1 : 0 ≤ (pk : Int) * (bk : Int) := Int.mul_nonneg (by omega) (by omega)
    have q2 : (pk : Int) * (bk : Int) ≤ 4611686014132420609 := Int.mul_le_mul (a := (pk : Int)) (b := (bk : Int)) (c := 2147483647) (d := 2147483647) (by omega) (by omega) (by omega) (by omega)
    have q3 : 0 ≤ (bk : Int) * (bk : Int) := Int.mul_nonneg (by omega) (by omega)
    have q4 : (bk : Int) * (bk : Int) ≤ 4611686014132420609 := Int.mul_le_mul (a := (bk : Int)) (b := (bk : Int)) (c := 2147483647) (d := 2147483647) (by omega) (by omega) (by omega) (by omega)
    by_cases hlt : k < 31
    · have HB := i64_bit0 ((n : Int) / 2 ^ k) (Int.ediv_nonneg (by omega) (Int.le_of_lt (Int.pow_pos (by omega)))) (by have := Int.ediv_le_self (a := (n : Int)) (2 ^ k) (by omega); omega)
      have HN : (n : Int) / 2 ^ k % 2 = ((n / 2 ^ k % 2 : Nat) : Int) := by simp
      rw [HN] at HB
      have e2 : n / 2 ^ (k + 1) = n / 2 ^ k / 2 := by rw [Nat.pow_succ, Nat.div_div_eq_div_mul]
      have E2 := hide e2
      clear HN e2
      by_cases hp : n / 2 ^ k % 2 = 1
      · have hbit : (bits BinOp.and IntKind.i64 ((n : Int) / 2 ^ k) 1 == 1) = true := by rw [HB, hp]; rfl
        have Hp := hide hp
        clear HB hp
        go_wp2_with (go_at_call 19; refine (rest_any _ _ (by omega) (by omega)).mono ?_; rintro e w' ⟨rfl, rfl⟩)
        go_round
        case rel => exact ⟨k + 1, bk * bk % 2147483647, pk * bk % 2147483647, by omega, Nat.mod_lt _ (by omega), Nat.mod_lt _ (by omega), by simp, by simp, by go_num, by rw [E2.out, ← pow_step _ _ _ Hp.out]; exact H.out⟩
        case measure => simp [intOf]; omega
      · have hp0 : n / 2 ^ k % 2 = 0 := by omega
        have hbit : (bits BinOp.and IntKind.i64 ((n : Int) / 2 ^ k) 1 == 1) = false := by rw [HB, hp0]; rfl
        have Hp := hide hp0
        clear HB hp hp0
        go_wp2_with (go_at_call 19; refine (rest_any _ _ (by omega) (by omega)).mono ?_; rintro e w' ⟨rfl, rfl⟩)
        go_round
        case rel => exact ⟨k + 1, bk * bk % 2147483647, pk, by omega, Nat.mod_lt _ (by omega), hpk, by simp, rfl, by go_num, by rw [E2.out, ← pow_skip _ _ _ Hp.out]; exact H.out⟩
        case measure => simp [intOf]; omega
    · go_wp2
      go_ret
      refine ⟨ret_int ?_, rfl⟩
      have h31 : k = 31 := by omega
      have := H.out
      rw [h31, Nat.div_eq_of_lt (by omega : n < 2 ^ 31), powM_zero, Nat.mul_one, Nat.mod_eq_of_lt hpk] at this
      rw [this]

/-- Are all sums? -/
def isB (xs : List Int) : Bool := xs.all fun x => decide (x < 2147483647)

theorem is_any (A : Option Addr) (B c : Nat) (xs : List Int) (w : World) (hr : Row w B A (xs.map (Value.int .u32))) (hl : xs.length ≤ 100) (hx : ∀ x ∈ xs, 0 ≤ x ∧ x ≤ 4294967295) :
    Calls Try.prog 18 #[.slice A xs.length c] w fun e w' => e = .returned (.bool (isB xs)) ∧ w = w' := by
  go_enter Try.func18, Try.ntmps18
  go_wp2
  go_loop [7] (fun i => ∃ k : Nat, k ≤ xs.length ∧ i = .int .i64 (k : Int) ∧ ∀ x ∈ xs.take k, x < 2147483647) (fun i => xs.length - (intOf i).toNat)
  case atStart => exact ⟨0, Nat.zero_le _, rfl, by simp⟩
  case round =>
    obtain ⟨k, hk, rfl, hall⟩ := hrel
    have H := hide hall
    clear hall
    by_cases hlt : k < xs.length
    · obtain ⟨ad, u, rfl, _, hu, hc⟩ := hr.at_ (k := k) (by simpa using hlt)
      obtain ⟨x, rfl, hxk⟩ : ∃ x, u = .int .u32 x ∧ Hid (xs[k]? = some x) := by
        have h1 := hu.out
        rw [List.getElem?_map, List.getElem?_eq_getElem hlt] at h1
        simp only [Option.map_some, Option.some.injEq] at h1
        exact ⟨xs[k], h1.symm, List.getElem?_eq_getElem hlt⟩
      have hb := hx x (List.mem_of_getElem? hxk.out)
      have hb1 := hb.1
      have hb2 := hb.2
      clear hu hr hx hb
      by_cases hp : x < 2147483647
      · go_wp2
        go_round
        case rel => exact ⟨k + 1, by omega, by go_num, by
          rw [take_next hxk.out]
          intro y hy
          rcases List.mem_append.1 hy with h | h
          · exact H.out y h
          · rw [List.mem_singleton.1 h]; exact hp⟩
        case measure => simp [intOf]; omega
      · have hf : isB xs = false := by
          unfold isB
          rw [List.all_eq_false]
          exact ⟨x, List.mem_of_getElem? hxk.out, by simpa using hp⟩
        have Hf := hide hf
        clear hf
        go_wp2
        go_ret
        exact ⟨by rw [Hf.out]; rfl, rfl⟩
    · have hf : isB xs = true := by
        unfold isB
        rw [List.all_eq_true]
        intro x hxx
        have := H.out
        rw [List.take_of_length_le (by omega)] at this
        simpa using this x hxx
      have Hf := hide hf
      clear hf hx hr
      go_wp2
      go_ret
      exact ⟨by rw [Hf.out]; rfl, rfl⟩
end Go.Proofs.Ytmcmooggcphelaa
