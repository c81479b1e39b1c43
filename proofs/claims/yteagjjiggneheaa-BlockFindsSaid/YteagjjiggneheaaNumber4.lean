/-
  block's number: four bytes as a number.
-/
import Derived.Test.YteagjjiggneheaaBlockFn
import Derived.Deep.QuietTactic
import Derived.BigQuiet
import Derived.Test.YteagjjiggneheaaParseLaw
import Derived.Lib.QuoteBits
namespace Go.Proofs.Yteagjjiggneheaa
open Go.RowKit
set_option linter.unusedVariables false

theorem i64_or_nat (a b : Nat) (ha : a < 9223372036854775808) (hb : b < 9223372036854775808) : bits .or .i64 (a : Int) (b : Int) = ((a ||| b : Nat) : Int) := by
  have hx : a ||| b < 2 ^ 63 := Nat.or_lt_two_pow (by omega) (by omega)
  show IntKind.i64.wrap ((BitVec.ofInt 64 (a : Int) ||| BitVec.ofInt 64 (b : Int)).toNat : Int) = _
  rw [BitVec.toNat_or, ofInt_u64 a (by omega), ofInt_u64 b (by omega)]
  exact Lib.wrap_i64_small _ (by omega)
theorem or3 (a b c d : Nat) (ha : a < 256) (hb : b < 256) (hc : c < 256) (hd : d < 256) :
    bits .or .i64 (bits .or .i64 (bits .or .i64 ((a : Int) * 16777216) ((b : Int) * 65536)) ((c : Int) * 256)) (d : Int) = ((a * 16777216 + b * 65536 + c * 256 + d : Nat) : Int) := by
  have e1 : (a : Int) * 16777216 = ((a * 16777216 : Nat) : Int) := by omega
  have e2 : (b : Int) * 65536 = ((b * 65536 : Nat) : Int) := by omega
  have e3 : (c : Int) * 256 = ((c * 256 : Nat) : Int) := by omega
  rw [e1, e2, e3, i64_or_nat _ _ (by omega) (by omega), nat_join 24 _ _ (by omega) (by omega), i64_or_nat _ _ (by omega) (by omega), nat_join 16 _ _ (by omega) (by omega), i64_or_nat _ _ (by omega) (by omega), nat_join 8 _ _ (by omega) (by omega)]
theorem num4_at {l : List UInt8} {a b c d : UInt8} (h0 : l[0]? = some a) (h1 : l[1]? = some b) (h2 : l[2]? = some c) (h3 : l[3]? = some d) : num4 l = a.toNat * 16777216 + b.toNat * 65536 + c.toNat * 256 + d.toNat := by
  match l, h0, h1, h2, h3 with
  | x :: y :: z :: t :: r, h0, h1, h2, h3 =>
    simp at h0 h1 h2 h3
    subst h0 h1 h2 h3
    unfold num4
    simp only [List.take_succ_cons, List.take_zero, List.foldl_cons, List.foldl_nil]
    omega

set_option maxHeartbeats 1000000 in
theorem bnumber_any {w : World} {B : Nat} {A : Option Addr} {n c : Nat} {bs : List UInt8} (hr : Bytes w B A bs) (hn : bs.length = n) (h4 : 4 ≤ n) (hl : n ≤ 9223372036854775807) :
    Calls Try.prog 38 #[.slice A n c] w fun e w' => e = .returned (.int .i64 (num4 bs : Int)) ∧ ∃ k, w' = w.drewN k := by
  subst hn
  obtain ⟨ad, x0, rfl, _, hx0, hc0⟩ := hr.at_ (k := 0) (by omega)
  obtain ⟨ad1, x1, hA1, _, hx1, hc1⟩ := hr.at_ (k := 1) (by omega)
  obtain ⟨ad2, x2, hA2, _, hx2, hc2⟩ := hr.at_ (k := 2) (by omega)
  obtain ⟨ad3, x3, hA3, _, hx3, hc3⟩ := hr.at_ (k := 3) (by omega)
  injection hA1 with hA1
  injection hA2 with hA2
  injection hA3 with hA3
  subst hA1 hA2 hA3
  have hv := or3 x0.toNat x1.toNat x2.toNat x3.toNat x0.toNat_lt x1.toNat_lt x2.toNat_lt x3.toNat_lt
  rw [← num4_at hx0.out hx1.out hx2.out hx3.out] at hv
  have HV := hide hv
  have g0 := x0.toNat_lt
  have g1 := x1.toNat_lt
  have g2 := x2.toNat_lt
  have g3 := x3.toNat_lt
  have i0 : (0 : Int) < (bs.length : Int) := by omega
  have i1 : (1 : Int) < (bs.length : Int) := by omega
  have i2 : (2 : Int) < (bs.length : Int) := by omega
  have i3 : (3 : Int) < (bs.length : Int) := by omega
  have j0 : 0 < bs.length := by omega
  have j1 : 1 < bs.length := by omega
  have j2 : 2 < bs.length := by omega
  have j3 : 3 < bs.length := by omega
  have k1 : w.cell? ⟨ad.block, ad.off + 1, none⟩ = some (.int .u8 (x1.toNat : Int)) := hc1
  have k2 : w.cell? ⟨ad.block, ad.off + 2, none⟩ = some (.int .u8 (x2.toNat : Int)) := hc2
  have k3 : w.cell? ⟨ad.block, ad.off + 3, none⟩ = some (.int .u8 (x3.toNat : Int)) := hc3
  have k0 : w.cell? ad = some (.int .u8 (x0.toNat : Int)) := hc0
  clear hr hv hx0 hx1 hx2 hx3 hc0 hc1 hc2 hc3
  go_enter Try.func38, Try.ntmps38
  go_wp2
  go_quiet (fail)
  go_wp2
  go_ret
  exact ⟨by rw [HV.out]; rfl, _, rfl⟩
end Go.Proofs.Yteagjjiggneheaa
