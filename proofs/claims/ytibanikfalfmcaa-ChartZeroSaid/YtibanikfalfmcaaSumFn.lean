/-
  num.Sum.
-/
import Derived.Test.YtibanikfalfmcaaNumFn
namespace Go.Proofs.Ytibanikfalfmcaa
open Go.RowKit
set_option linter.unusedVariables false

def sumE (l : List Int) : Int × Int := if l.all amt = true then toldE l.sum else (0, 1)
/-- A number as 64 bits, and its sign. -/
def lo64 (a : Int) : Int := if a < 0 then a + 18446744073709551616 else a
def hi64 (a : Int) : Int := if a < 0 then -1 else 0
def Try.lays25_ren : Go.Shelf.Ren := ⟨fun | 25 => 81 | n => n, fun | 22 => 52 | n => n, fun | n => n⟩
theorem Try.lays25 : Go.Proofs.Lays7.n25 Try.prog Try.lays25_ren := {
  mixed := by kernel_rfl
  f25 := Try.func81.trans (congrArg some (by kernel_rfl))
  t22 := Try.underlying52
  a22 := Try.isAgg52
  z22 := Try.sizeOf52
  v22 := Try.zeroValue52
  i22 := by kernel_rfl }

set_option maxRecDepth 100000 in
set_option maxHeartbeats 2000000 in
theorem sum_any (A : Option Addr) (B n c : Nat) (l : List Int) (w : World) (hn : l.length = n) (hr : Row w B A (l.map i64v)) (hB : B ≤ w.heap.size) (hl : n ≤ 1000000) : Calls Try.prog 56 #[.slice A n c] w (NumR w (sumE l)) := by
  obtain ⟨r, HR⟩ : ∃ r, Hid (r = sumE l) := ⟨_, rfl⟩
  rw [← HR.out]
  have HI := hide (is_any A B n c l w hn hr (by omega))
  have HRW := hide hr
  clear hr
  go_enter Try.func56, Try.ntmps56
  go_wp2_with (go_at_call 80; refine halted ?_)
  refine go_on ?_
  refine HI.out.mono ?_
  clear HI
  rintro e w1 ⟨rfl, rfl⟩
  cases hm : l.all amt with
  | false =>
    have hE : r = (0, 1) := by rw [HR.out]; unfold sumE; rw [if_neg (by rw [hm]; simp)]
    have HE := hide hE
    clear hE
    go_wp2
    go_ret2
    exact ⟨by rw [HE.out]; rfl, Below.refl _ _⟩
  | true =>
    have hE : r = toldE l.sum := by rw [HR.out]; unfold sumE; rw [if_pos hm]
    have HE := hide hE
    have HM := hide hm
    clear hE hm HR
    go_wp2
    go_loop [15, 4, 5] (fun i lo hi => ∃ (k : Nat) (L H : Int), k ≤ l.length ∧ i = .int .i64 (k : Int) ∧ lo = .int .u64 L ∧ hi = .int .i64 H ∧ 0 ≤ L ∧ L < 18446744073709551616 ∧ -(k : Int) ≤ H ∧ H ≤ (k : Int) ∧ Hid (H * 18446744073709551616 + L = (l.take k).sum)) (fun i _ _ => l.length - (intOf i).toNat)
    case atStart => exact ⟨0, 0, 0, Nat.zero_le _, rfl, rfl, rfl, by omega, by omega, by omega, by omega, rfl⟩
    case round =>
      obtain ⟨k, L, H, hk, rfl, rfl, rfl, hL0, hL1, hH0, hH1, HT⟩ := hrel
      by_cases hlt : k < l.length
      · obtain ⟨ad, u, rfl, _, hu, hc⟩ := HRW.out.at_ (k := k) (by simpa using hlt)
        obtain ⟨x, rfl, hxk⟩ : ∃ x, u = .int .i64 x ∧ Hid (l[k]? = some x) := by
          have h1 := hu.out
          rw [List.getElem?_map, List.getElem?_eq_getElem hlt] at h1
          simp only [Option.map_some, Option.some.injEq] at h1
          exact ⟨l[k], h1.symm, List.getElem?_eq_getElem hlt⟩
        obtain ⟨x0, x1⟩ := (amt_iff x).1 (List.all_eq_true.1 HM.out x (List.mem_of_getElem? hxk.out))
        obtain ⟨Y, hY⟩ : ∃ Y, Y = lo64 x := ⟨_, rfl⟩
        have hYb : 0 ≤ Y ∧ Y < 18446744073709551616 := by rw [hY]; unfold lo64; split <;> omega
        obtain ⟨y0, y1⟩ := hYb
        obtain ⟨L', hL'⟩ : ∃ L', L' = (L + Y) % 18446744073709551616 := ⟨_, rfl⟩
        obtain ⟨C, hC⟩ : ∃ C, C = (L + Y) / 18446744073709551616 := ⟨_, rfl⟩
        have hadd : (callFunc 81 #[.int .u64 L, .int .u64 Y, .int .u64 0]).run Try.prog w = .ok (.value (.tuple #[.int .u64 L', .int .u64 C])) w := by
          have h := Any7.bits_Add64 Try.lays25 L.toNat Y.toNat 0 (by omega) w
          have e1 : ((L.toNat : Nat) : Int) = L := by omega
          have e2 : ((Y.toNat : Nat) : Int) = Y := by omega
          have e3 : (((L.toNat + Y.toNat + 0) % 18446744073709551616 : Nat) : Int) = L' := by omega
          have e4 : (((L.toNat + Y.toNat + 0) / 18446744073709551616 : Nat) : Int) = C := by omega
          rw [e1, e2, e3, e4] at h
          exact h
        have hwrap : IntKind.u64.wrap x = Y := by
          have e : IntKind.u64.wrap x = x % 18446744073709551616 := by simp [IntKind.wrap, IntKind.bits, IntKind.signed]
          rw [e, hY]
          unfold lo64
          split <;> omega
        clear hu
        have hX : Hid (Y = lo64 x ∧ L' = (L + Y) % 18446744073709551616 ∧ C = (L + Y) / 18446744073709551616) := ⟨hY, hL', hC⟩
        clear hY hL' hC
        go_wp2
        have hw1 : x / 9223372036854775808 = hi64 x := by unfold hi64; split <;> omega
        have hC1 : 0 ≤ C ∧ C ≤ 1 := by have := hX.out.2.2; omega
        have hh : hi64 x = -1 ∨ hi64 x = 0 := by unfold hi64; split <;> simp
        obtain ⟨h1, h2⟩ := hX.out.2
        have h3 := hX.out.1
        have hsum : (H + (hi64 x + C)) * 18446744073709551616 + L' = (l.take (k + 1)).sum := by
          rw [take_next hxk.out, List.sum_append, ← HT.out]
          have : x = hi64 x * 18446744073709551616 + Y := by rw [h3]; unfold hi64 lo64; split <;> omega
          simp only [List.sum_cons, List.sum_nil]
          omega
        refine ⟨⟨k + 1, L', H + (hi64 x + C), by omega, by go_num, rfl, ?_, by omega, by omega, by omega, by omega, hsum⟩, by simp [intOf]; omega⟩
        rw [hw1, IntWalk.wrap64_in C (by omega), IntWalk.wrap64_in (hi64 x + C) (by omega), IntWalk.wrap64_in (H + (hi64 x + C)) (by omega)]
      · have hk' : k = l.length := by omega
        subst hk'
        have hT := HT.out
        rw [List.take_of_length_le (Nat.le_refl _)] at hT
        have HTT := hide hT
        clear hT HT hlt hk
        by_cases hLs : L ≤ 9223372036854775807
        · by_cases hH : H = 0
          · subst hH
            have hT : l.sum = L := by have := HTT.out; omega
            have HTL := hide hT
            have HC := hide (told_any L w)
            clear hT
            go_wp2_with (go_at_call 82; refine halted ?_)
            refine go_on ?_
            refine HC.out.mono ?_
            rintro e w1 ⟨rfl, hb1⟩
            go_wp2
            go_ret2
            exact ⟨by rw [HE.out, HTL.out]; rfl, hb1⟩
          · have hne : (H != 0) = true := by rw [bne_iff_ne]; exact hH
            have hr0 : r = (0, 2) := by
              rw [HE.out]
              have := HTT.out
              unfold toldE
              rw [if_neg]
              rw [Bool.not_eq_true, amt_no]
              omega
            have HR0 := hide hr0
            clear hr0 hH HE HTT
            go_wp2
            go_ret2
            exact ⟨by rw [HR0.out]; rfl, Below.refl _ _⟩
        · have hw : IntKind.i64.wrap L = L - 18446744073709551616 := by rw [IntKind.wrap_i64]; omega
          have hd : (L - 18446744073709551616) / 9223372036854775808 = -1 := by omega
          by_cases hH : H = -1
          · subst hH
            have hT : l.sum = L - 18446744073709551616 := by have := HTT.out; omega
            have HTL := hide hT
            have HC := hide (told_any (L - 18446744073709551616) w)
            clear hT
            go_wp2_with (go_at_call 82; refine halted ?_)
            refine go_on ?_
            refine HC.out.mono ?_
            rintro e w1 ⟨rfl, hb1⟩
            go_wp2
            go_ret2
            exact ⟨by rw [HE.out, HTL.out]; rfl, hb1⟩
          · have hne : (H != -1) = true := by rw [bne_iff_ne]; exact hH
            have hr0 : r = (0, 2) := by
              rw [HE.out]
              have := HTT.out
              unfold toldE
              rw [if_neg]
              rw [Bool.not_eq_true, amt_no]
              omega
            have HR0 := hide hr0
            clear hr0 hH HE HTT
            go_wp2
            go_ret2
            exact ⟨by rw [HR0.out]; rfl, Below.refl _ _⟩
end Go.Proofs.Ytibanikfalfmcaa
