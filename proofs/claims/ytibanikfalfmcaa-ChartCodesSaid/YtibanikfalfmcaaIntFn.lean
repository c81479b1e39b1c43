/-
  code.Int, code.TakeInt.
-/
import Derived.Test.YtibanikfalfmcaaCodeLaw
import Derived.Test.YtibanikfalfmcaaCode
import Derived.Test.YtibanikfalfmcaaTakeT
import Derived.IntWalk
import Derived.WalkSmall
namespace Go.Proofs.Ytibanikfalfmcaa
open Go.RowKit
set_option linter.unusedVariables false

def zig (x : Int) : Nat := (if x < 0 then -2 * x - 1 else 2 * x).toNat
def intB (x : Int) : List UInt8 := numB (zig x)
theorem zig_lt {x : Int} (h0 : -9223372036854775808 ≤ x) (h1 : x ≤ 9223372036854775807) : zig x < 18446744073709551616 := by unfold zig; split <;> omega

theorem xor_ones (a : Nat) (h : a < 18446744073709551616) : a ^^^ 18446744073709551615 = 18446744073709551615 - a := by
  have h1 : (~~~ (BitVec.ofNat 64 a)).toNat = 2 ^ 64 - 1 - (BitVec.ofNat 64 a).toNat := BitVec.toNat_not
  rw [show (~~~ (BitVec.ofNat 64 a)) = BitVec.ofNat 64 a ^^^ BitVec.allOnes 64 from (BitVec.xor_allOnes).symm, BitVec.toNat_xor, BitVec.toNat_ofNat, BitVec.toNat_allOnes, Nat.mod_eq_of_lt (by omega)] at h1
  exact h1
theorem xor_i64_0 (a : Int) (h0 : 0 ≤ a) (h1 : a < 9223372036854775808) : bits .xor .i64 a 0 = a := by
  obtain ⟨n, rfl⟩ := Int.eq_ofNat_of_zero_le h0
  show IntKind.i64.wrap ((BitVec.ofInt 64 (n : Int) ^^^ BitVec.ofInt 64 0).toNat : Int) = _
  rw [show BitVec.ofInt 64 0 = 0#64 from rfl, BitVec.xor_zero, BitVec.toNat_ofInt, IntKind.wrap_i64]
  omega
theorem xor_i64_m1 (a : Int) (h0 : 0 ≤ a) (h1 : a < 9223372036854775808) : bits .xor .i64 a (-1) = -a - 1 := by
  obtain ⟨n, rfl⟩ := Int.eq_ofNat_of_zero_le h0
  show IntKind.i64.wrap ((BitVec.ofInt 64 (n : Int) ^^^ BitVec.ofInt 64 (-1)).toNat : Int) = _
  rw [show BitVec.ofInt 64 (-1) = BitVec.allOnes 64 from by decide, BitVec.xor_allOnes, BitVec.toNat_not, BitVec.toNat_ofInt, IntKind.wrap_i64]
  omega
theorem wrap_u64 (a : Int) : IntKind.u64.wrap a = a % 18446744073709551616 := by simp [IntKind.wrap, IntKind.bits, IntKind.signed]
theorem zig_pos {x : Int} (h0 : 0 ≤ x) (h1 : x ≤ 9223372036854775807) : bits .xor .u64 (x * 2) (x / 9223372036854775808) = (zig x : Int) := by
  rw [show x / 9223372036854775808 = 0 by omega, u64_xor _ _ (by omega) (by omega) (by omega) (by omega)]
  unfold zig
  rw [if_neg (by omega)]
  simp
  omega
theorem zig_neg {x : Int} (h0 : -9223372036854775808 ≤ x) (h1 : x < 0) : bits .xor .u64 (IntKind.u64.wrap (IntKind.u64.wrap x * 2)) (IntKind.u64.wrap (x / 9223372036854775808)) = (zig x : Int) := by
  rw [wrap_u64, wrap_u64, wrap_u64, show (x / 9223372036854775808) % 18446744073709551616 = 18446744073709551615 by omega, u64_xor _ _ (by omega) (by omega) (by omega) (by omega)]
  rw [show (18446744073709551615 : Int).toNat = 18446744073709551615 from rfl, xor_ones _ (by omega)]
  unfold zig
  rw [if_pos h1]
  omega

set_option maxRecDepth 100000 in
set_option maxHeartbeats 2000000 in
theorem int_any (x : Int) (w : World) (h0 : -9223372036854775808 ≤ x) (h1 : x ≤ 9223372036854775807) :
    Calls Try.prog 38 #[.int .i64 x] w fun e w' => NewB w w' e (intB x) := by
  have HN := hide (number_any (zig x) w (zig_lt h0 h1))
  by_cases hx : x < 0
  · have hz := zig_neg h0 hx
    have HZ := hide hz
    clear hz
    go_enter Try.func38, Try.ntmps38
    go_wp2_with (go_at_call 36; refine halted ?_)
    refine go_on ?_
    rw [HZ.out]
    refine HN.out.mono ?_
    rintro e w1 ⟨A1, c1, rfl, hown, hb⟩
    have HR := hide (And.intro hown hb)
    clear hown hb
    go_wp2
    go_ret
    exact ⟨A1, c1, rfl, HR.out.1, HR.out.2⟩
  · have hz := zig_pos (x := x) (by omega) h1
    have HZ := hide hz
    clear hz
    go_enter Try.func38, Try.ntmps38
    go_wp2_with (go_at_call 36; refine halted ?_)
    refine go_on ?_
    rw [HZ.out]
    refine HN.out.mono ?_
    rintro e w1 ⟨A1, c1, rfl, hown, hb⟩
    have HR := hide (And.intro hown hb)
    clear hown hb
    go_wp2
    go_ret
    exact ⟨A1, c1, rfl, HR.out.1, HR.out.2⟩
/-- A number out of its zigzag. -/
def zag (z : Nat) : Int := if z % 2 = 0 then (z : Int) / 2 else -((z : Int) / 2) - 1
theorem zag_zig {x : Int} : zag (zig x) = x := by unfold zag zig; split <;> split <;> omega
set_option maxRecDepth 100000 in
set_option maxHeartbeats 2000000 in
theorem takeInt1_any (z : Nat) (A : Option Addr) (n c : Nat) (w : World) (hz : z < 18446744073709551616) :
    Calls Try.prog 78 #[.int .u64 (z : Int), .slice A n c] w fun e w' => e = .returned (.tuple #[.int .i64 (zag z), .slice A n c, .int .i64 0]) ∧ w = w' := by
  have e0 := and_one_u64 (z : Int) (by omega) (by omega)
  by_cases hp : z % 2 = 0
  · have e1 : bits .and .u64 (z : Int) 1 = 0 := by rw [e0]; omega
    have e2 := xor_i64_0 ((z : Int) / 2) (by omega) (by omega)
    have hE : zag z = (z : Int) / 2 := if_pos hp
    have HE := hide hE
    clear e0 hE hp
    go_enter Try.func78, Try.ntmps78
    go_wp2
    refine bodyPost_ret (results_tmp3 rfl _ _ _) rfl ?_
    exact ⟨by rw [HE.out]; rfl, rfl⟩
  · have e1 : bits .and .u64 (z : Int) 1 = 1 := by rw [e0]; omega
    have e2 := xor_i64_m1 ((z : Int) / 2) (by omega) (by omega)
    have hE : zag z = -((z : Int) / 2) - 1 := if_neg hp
    have HE := hide hE
    clear e0 hE hp
    go_enter Try.func78, Try.ntmps78
    go_wp2
    refine bodyPost_ret (results_tmp3 rfl _ _ _) rfl ?_
    exact ⟨by rw [HE.out]; rfl, rfl⟩
end Go.Proofs.Ytibanikfalfmcaa
