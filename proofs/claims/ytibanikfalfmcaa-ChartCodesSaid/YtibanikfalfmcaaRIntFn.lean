/-
  The reference's Int, TakeInt.
-/
import Derived.Test.YtibanikfalfmcaaTakeI
namespace Go.Proofs.Ytibanikfalfmcaa
open Go.RowKit
set_option linter.unusedVariables false

set_option maxRecDepth 100000 in
set_option maxHeartbeats 2000000 in
theorem rint_any (x : Int) (w : World) (h0 : -9223372036854775808 ≤ x) (h1 : x ≤ 9223372036854775807) :
    Calls Try.prog 48 #[.int .i64 x] w fun e w' => NewB w w' e (intB x) := by
  have hn := rnumber_any (zig x) w (zig_lt h0 h1)
  by_cases hx : x < 0
  · obtain ⟨y, hy⟩ : ∃ y, y = -x - 1 := ⟨_, rfl⟩
    rw [show ((zig x : Nat) : Int) = 2 * y + 1 from by unfold zig; rw [if_pos hx]; omega] at hn
    have HN := hide hn
    have e1 : IntKind.i64.wrap (x + 1) = x + 1 := by rw [IntKind.wrap_i64]; omega
    have e2 : IntKind.i64.wrap (-(x + 1)) = y := by rw [IntKind.wrap_i64]; omega
    have e3 : IntKind.u64.wrap y = y := by rw [wrap_u64]; omega
    have e4 : IntKind.u64.wrap (2 * y) = 2 * y := by rw [wrap_u64]; omega
    have e5 : IntKind.u64.wrap (2 * y + 1) = 2 * y + 1 := by rw [wrap_u64]; omega
    clear hn hy
    go_enter Try.func48, Try.ntmps48
    go_wp2_with (go_at_call 46; refine halted ?_)
    refine go_on ?_
    refine HN.out.mono ?_
    rintro e w1 ⟨A1, c1, rfl, hown, hb⟩
    have HR := hide (And.intro hown hb)
    clear hown hb
    go_wp2
    go_ret
    exact ⟨A1, c1, rfl, HR.out.1, HR.out.2⟩
  · rw [show ((zig x : Nat) : Int) = 2 * x from by unfold zig; rw [if_neg hx]; omega] at hn
    have HN := hide hn
    have e3 : IntKind.u64.wrap x = x := by rw [wrap_u64]; omega
    have e4 : IntKind.u64.wrap (2 * x) = 2 * x := by rw [wrap_u64]; omega
    clear hn
    go_enter Try.func48, Try.ntmps48
    go_wp2_with (go_at_call 46; refine halted ?_)
    refine go_on ?_
    refine HN.out.mono ?_
    rintro e w1 ⟨A1, c1, rfl, hown, hb⟩
    have HR := hide (And.intro hown hb)
    clear hown hb
    go_wp2
    go_ret
    exact ⟨A1, c1, rfl, HR.out.1, HR.out.2⟩

set_option maxRecDepth 100000 in
set_option maxHeartbeats 2000000 in
theorem rtakeInt_any (A : Option Addr) (B c n : Nat) (bs : List UInt8) (w : World) (hn : bs.length = n) (hr : Bytes w B A bs) (hB : B ≤ w.heap.size) (hl : bs.length ≤ 140737488355000) (hc : bs.length ≤ c) {X : Nat → Prop} (haw : Away X A bs) (hX : ∀ k, X k → k < w.heap.size) :
    Calls Try.prog 51 #[.slice A n c] w fun e w' => TookZ X w w' e (tookZ (takeN bs)) := by
  subst hn
  have htn := rtakeNumber_any A B c _ bs w rfl hr hB hl hc haw hX
  cases hT : takeN bs with
  | none =>
    rw [hT] at htn
    have HN := hide htn
    clear htn hT
    go_enter Try.func51, Try.ntmps51
    go_wp2_with (go_at_call 49; refine halted ?_)
    refine go_on ?_
    refine HN.out.mono ?_
    rintro e w1 ⟨A1, c1, rfl, hr1, hc1, hb1, haw1⟩
    dsimp only [tookR] at *
    go_wp2
    refine bodyPost_ret (results_tmp3 rfl _ _ _) rfl ?_
    exact ⟨none, 0, rfl, Bytes.nil, by simp [tookZ], hb1, Away.none⟩
  | some x =>
    obtain ⟨m, r⟩ := x
    rw [hT] at htn
    have HN := hide htn
    have hm := takeN_lt hT
    obtain ⟨z, hz⟩ : ∃ z : Int, z = (m : Int) := ⟨_, rfl⟩
    have hzb : 0 ≤ z ∧ z < 18446744073709551616 := by omega
    clear htn hT
    by_cases hp : m % 2 = 0
    · have HZ := hide (show zag m = z / 2 from by unfold zag; rw [if_pos hp, hz])
      have hz0 : z % 2 = 0 := by omega
      have e3 : IntKind.i64.wrap (z / 2) = z / 2 := by rw [IntKind.wrap_i64]; omega
      have HM := hide hz
      clear hm hz hp
      go_enter Try.func51, Try.ntmps51
      go_wp2_with (go_at_call 49; refine halted ?_)
      refine go_on ?_
      refine HN.out.mono ?_
      rintro e w1 ⟨A1, c1, rfl, hr1, hc1, hb1, haw1⟩
      dsimp only [tookR] at *
      have HR1 := hide (And.intro hr1 (And.intro hc1 haw1))
      rw [← HM.out]
      clear hr1 hc1 haw1
      go_wp2
      refine bodyPost_ret (results_tmp3 rfl _ _ _) rfl ?_
      exact ⟨A1, c1, by show _ = Ending.returned (.tuple #[.int .i64 (zag m), .slice A1 r.length c1, .int .i64 0]); rw [HZ.out]; rfl, HR1.out.1, HR1.out.2.1, hb1, HR1.out.2.2⟩
    · have HZ := hide (show zag m = -(z / 2) - 1 from by unfold zag; rw [if_neg hp, hz])
      have hz0 : z % 2 = 1 := by omega
      have e3 : IntKind.i64.wrap (z / 2) = z / 2 := by rw [IntKind.wrap_i64]; omega
      have e4 : IntKind.i64.wrap (-(z / 2)) = -(z / 2) := by rw [IntKind.wrap_i64]; omega
      have e5 : IntKind.i64.wrap (-(z / 2) - 1) = -(z / 2) - 1 := by rw [IntKind.wrap_i64]; omega
      have HM := hide hz
      clear hm hz hp
      go_enter Try.func51, Try.ntmps51
      go_wp2_with (go_at_call 49; refine halted ?_)
      refine go_on ?_
      refine HN.out.mono ?_
      rintro e w1 ⟨A1, c1, rfl, hr1, hc1, hb1, haw1⟩
      dsimp only [tookR] at *
      have HR1 := hide (And.intro hr1 (And.intro hc1 haw1))
      rw [← HM.out]
      clear hr1 hc1 haw1
      go_wp2
      refine bodyPost_ret (results_tmp3 rfl _ _ _) rfl ?_
      exact ⟨A1, c1, by show _ = Ending.returned (.tuple #[.int .i64 (zag m), .slice A1 r.length c1, .int .i64 0]); rw [HZ.out]; rfl, HR1.out.1, HR1.out.2.1, hb1, HR1.out.2.2⟩
end Go.Proofs.Ytibanikfalfmcaa
