/-
  The check sum's inner functions (rest, power, is): what they compute.
-/
import Derived.Test.YtnmgbhpmmbhgoaaBase
import Derived.Test.YtnmgbhpmmbhgoaaMathCheck
namespace Go.Proofs.Ytnmgbhpmmbhgoaa
open Go.RowKit
set_option linter.unusedVariables false

theorem u64_and_prime (n : Int) (h0 : 0 ≤ n) (h1 : n < 18446744073709551616) : bits .and .u64 n 2147483647 = n % 2147483648 := by
  rw [u64_and n 2147483647 h0 h1 (by omega) (by omega)]
  have : n.toNat &&& (2147483647 : Int).toNat = n.toNat % 2147483648 := nat_mask31 _
  rw [this]; omega

theorem rest_any (n : Int) (w : World) (h0 : 0 ≤ n) (h1 : n ≤ 18446744073709551615) :
    Calls Try.prog 28 #[.int .u64 n] w fun e w' => e = .returned (.int .u64 (n % 2147483647)) ∧ w = w' := by
  go_enter Try.func28, Try.ntmps28
  go_wp2
  go_loop [0] (fun t => ∃ m : Int, 0 ≤ m ∧ m ≤ 18446744073709551615 ∧ m % 2147483647 = n % 2147483647 ∧ t = .int .u64 m) (fun t => (intOf t).toNat)
  case atStart => exact ⟨n, h0, h1, rfl, rfl⟩
  case round =>
    obtain ⟨m, hm0, hm1, hmm, rfl⟩ := hrel
    have Hm := hide hmm
    clear hmm
    have ha : Hid (bits .and .u64 m 2147483647 = m % 2147483648) := u64_and_prime m hm0 (by omega)
    by_cases hlt : 2147483647 < m
    · have hand := ha.out
      go_wp2
      go_round
      case rel => exact ⟨_, by omega, by omega, by have := Hm.out; omega, rfl⟩
      case measure => simp [intOf]; omega
    · go_wp2
      go_ret
      exact ⟨ret_int Hm.out, rfl⟩

/-- Are all sums? -/
def isB (xs : List Int) : Bool := xs.all fun x => decide (x < 2147483647)

theorem is_any (A : Option Addr) (B c : Nat) (xs : List Int) (w : World) (hr : Row w B A (xs.map (Value.int .u32))) (hl : xs.length ≤ 100) (hx : ∀ x ∈ xs, 0 ≤ x ∧ x ≤ 4294967295) :
    Calls Try.prog 27 #[.slice A xs.length c] w fun e w' => e = .returned (.bool (isB xs)) ∧ w = w' := by
  go_enter Try.func27, Try.ntmps27
  go_wp2
  go_loop [7] (fun i => ∃ k : Nat, k ≤ xs.length ∧ i = .int .i64 (k : Int) ∧ ∀ x ∈ xs.take k, x < 2147483647) (fun i => xs.length - (intOf i).toNat)
  case atStart => exact ⟨0, Nat.zero_le _, rfl, by simp⟩
  case round =>
    obtain ⟨k, hk, rfl, hall⟩ := hrel
    have H := hide hall
    clear hall
    by_cases hlt : k < xs.length
    · obtain ⟨ad, u, rfl, _, hu, hc⟩ := hr.at_ (k := k) (by simpa using hlt)
      obtain ⟨x, rfl, hxk⟩ : ∃ x, u = .int .u32 x ∧ Hid (xs[k]? = some x) := by
        have h1 := hu.out
        rw [List.getElem?_map, List.getElem?_eq_getElem hlt] at h1
        simp only [Option.map_some, Option.some.injEq] at h1
        exact ⟨xs[k], h1.symm, List.getElem?_eq_getElem hlt⟩
      have hb := hx x (List.mem_of_getElem? hxk.out)
      have hb1 := hb.1
      have hb2 := hb.2
      clear hu hr hx hb
      by_cases hp : x < 2147483647
      · go_wp2
        go_round
        case rel => exact ⟨k + 1, by omega, by go_num, by
          rw [take_next hxk.out]
          intro y hy
          rcases List.mem_append.1 hy with h | h
          · exact H.out y h
          · rw [List.mem_singleton.1 h]; exact hp⟩
        case measure => simp [intOf]; omega
      · have hf : isB xs = false := by
          unfold isB
          rw [List.all_eq_false]
          exact ⟨x, List.mem_of_getElem? hxk.out, by simpa using hp⟩
        have Hf := hide hf
        clear hf
        go_wp2
        go_ret
        exact ⟨by rw [Hf.out]; rfl, rfl⟩
    · have hf : isB xs = true := by
        unfold isB
        rw [List.all_eq_true]
        intro x hxx
        have := H.out
        rw [List.take_of_length_le (by omega)] at this
        simpa using this x hxx
      have Hf := hide hf
      clear hf hx hr
      go_wp2
      go_ret
      exact ⟨by rw [Hf.out]; rfl, rfl⟩
end Go.Proofs.Ytnmgbhpmmbhgoaa
