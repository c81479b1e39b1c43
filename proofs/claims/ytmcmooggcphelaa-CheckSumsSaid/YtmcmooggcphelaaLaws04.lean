/-
  The laws of chapter 4, walked.
-/
import Derived.Test.YtmcmooggcphelaaJoin
import Derived.Test.YtmcmooggcphelaaOwn
import Derived.Test.YtmcmooggcphelaaOpen
import Derived.Test.YtmcmooggcphelaaCheckLaw
import Derived.Lib.SlBytesConst
namespace Go.Proofs.Ytmcmooggcphelaa
open Go.RowKit
set_option linter.unusedVariables false

theorem awake_any (w : World) : Calls Try.prog 9 #[] w fun e w' => e = .returned (.bool true) ∧ Below w.heap.size w w' := by
  have kc := fun (w : World) (C : Array Value) (n c : Nat) => Lib.run_convert_bytes_const (P := Try.prog) w 23 5 C n c Try.underlying23 Try.underlying5
  have hr : Bytes (w.alloc (.cells #[.int .u8 97, .int .u8 98] 5 (2, 3))) (w.heap.size + 1) (some ⟨w.heap.size, 0, none⟩) [97, 98] := Row.new w #[.int .u8 97, .int .u8 98] 5 (2, 3)
  have hs := sum_any (some ⟨w.heap.size, 0, none⟩) (w.heap.size + 1) 2 [97, 98] _ hr (by simp) (by simp)
  have e1 : addS 0 [97, 98] = 1647185 := by decide +kernel
  rw [e1] at hs
  have HS := hide hs
  clear hs e1 hr
  go_enter Try.func9, Try.ntmps9
  go_wp2_with (go_at_call 12; refine HS.out.mono ?_; rintro e w' ⟨rfl, hb⟩)
  go_ret
  exact ⟨rfl, ((Below.refl w.heap.size w).alloc (Nat.le_refl _) _).trans (hb.mono (by simp))⟩

theorem checkSums_any (s : Nat) (A : Option Addr) (c : Nat) (bs : List UInt8) (w : World) (hs : s ≤ 4294967295) (hr : Bytes w w.heap.size A bs) (hl : bs.length ≤ 9223372036854775807) :
    Calls Try.prog 3 #[.int .u32 (s : Int), .slice A bs.length c] w fun e w' => e = .returned (.bool true) ∧ Below w.heap.size w w' := by
  by_cases hL : 3000000 < bs.length
  · go_enter Try.func3, Try.ntmps3
    go_wp2_with (go_at_call 9; refine (awake_any _).mono ?_; rintro e w1 ⟨rfl, hb1⟩)
    go_ret
    exact ⟨rfl, hb1⟩
  · have hL2 : bs.length ≤ 4611686018427387904 := by omega
    have HL := hide hL2
    clear hL2
    go_enter Try.func3, Try.ntmps3
    go_wp2_with (go_at_call 9; refine (awake_any _).mono ?_; rintro e w1 ⟨rfl, hb1⟩)
    refine (add_any s A _ c bs _ hs (hr.below hb1) hb1.size HL.out).mono ?_
    rintro e w2 ⟨rfl, hb2⟩
    have hb12 := hb1.trans (hb2.mono hb1.size)
    go_wp2_with fail
    refine (radd_any s A _ c bs _ hs (hr.below hb12) HL.out).mono ?_
    rintro e w2' ⟨rfl, rfl⟩
    go_wp2_with fail
    refine (sum_any A _ c bs _ (hr.below hb12) hb12.size HL.out).mono ?_
    rintro e w3 ⟨rfl, hb3⟩
    have hb13 := hb12.trans (hb3.mono hb12.size)
    go_wp2_with fail
    refine (rsum_any A _ c bs _ (hr.below hb13) HL.out).mono ?_
    rintro e w3' ⟨rfl, rfl⟩
    go_wp2_with fail
    go_ret
    exact ⟨rfl, hb13⟩

theorem checkJoins_any (a b n : Int) (w : World) (ha : 0 ≤ a) (ha' : a ≤ 4294967295) (hb : 0 ≤ b) (hb' : b ≤ 4294967295) (hn0 : -9223372036854775808 ≤ n) (hn1 : n ≤ 9223372036854775807) :
    Calls Try.prog 6 #[.int .u32 a, .int .u32 b, .int .i64 n] w fun e w' => e = .returned (.bool true) ∧ Below w.heap.size w w' := by
  go_enter Try.func6, Try.ntmps6
  go_wp2_with (go_at_call 9; refine (awake_any _).mono ?_; rintro e w1 ⟨rfl, hb1⟩)
  refine (join_any a b n _ ha ha' hb hb' hn0 hn1).mono ?_
  rintro e w2 ⟨rfl, hb2⟩
  have hb12 := hb1.trans (hb2.mono hb1.size)
  go_wp2_with fail
  refine (rjoin_any a b n _ ha ha' hb hb' hn0 hn1).mono ?_
  rintro e w2' ⟨rfl, rfl⟩
  go_wp2_with fail
  go_ret
  exact ⟨rfl, hb12⟩

theorem checkCuts_any (a b n : Int) (w : World) (ha : 0 ≤ a) (ha' : a ≤ 4294967295) (hb : 0 ≤ b) (hb' : b ≤ 4294967295) (hn0 : -9223372036854775808 ≤ n) (hn1 : n ≤ 9223372036854775807) :
    Calls Try.prog 7 #[.int .u32 a, .int .u32 b, .int .i64 n] w fun e w' => e = .returned (.bool true) ∧ Below w.heap.size w w' := by
  go_enter Try.func7, Try.ntmps7
  go_wp2_with (go_at_call 9; refine (awake_any _).mono ?_; rintro e w1 ⟨rfl, hb1⟩)
  refine (cut_any a b n _ ha ha' hb hb' hn0 hn1).mono ?_
  rintro e w2 ⟨rfl, hb2⟩
  have hb12 := hb1.trans (hb2.mono hb1.size)
  go_wp2_with fail
  refine (rcut_any a b n _ ha ha' hb hb' hn0 hn1).mono ?_
  rintro e w2' ⟨rfl, rfl⟩
  go_wp2_with fail
  go_ret
  exact ⟨rfl, hb12⟩
end Go.Proofs.Ytmcmooggcphelaa
