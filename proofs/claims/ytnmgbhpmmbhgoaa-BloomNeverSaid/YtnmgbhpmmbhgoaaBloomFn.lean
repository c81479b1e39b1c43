/-
  Filters: is, Is, Count: what they compute.
-/
import Derived.Test.YtnmgbhpmmbhgoaaBloomMath
import Derived.Test.YtnmgbhpmmbhgoaaCheckLaw
import Derived.BigQuiet
import Derived.Deep.QuietTactic
import Derived.Shelf.Small.Bits
import Derived.WalkSpells
namespace Go.Proofs.Ytnmgbhpmmbhgoaa
open Go.RowKit
set_option linter.unusedVariables false

theorem isf_any (w : World) (A : Option Addr) (c : Nat) (f : List UInt8) (hr : Bytes w w.heap.size A f) (hl : f.length ≤ 9223372036854775807) :
    Calls Try.prog 16 #[.slice A f.length c] w fun e w' => e = .returned (.bool (isF f)) ∧ w = w' := by
  rcases isF_ways f with ⟨h, h1⟩ | ⟨h9, x, hx, hh⟩
  · rw [h]
    go_enter Try.func16, Try.ntmps16
    go_wp2
    go_ret
    exact ⟨rfl, rfl⟩
  · obtain ⟨ad, b, rfl, hlt, hb, hc0⟩ := hr.at_ (k := 0) (by omega)
    have hc : w.cell? ad = some (.int .u8 (b.toNat : Int)) := hc0
    have hbx : b = x := by have := hb.out.symm.trans hx.out; injection this
    subst hbx
    clear hc0 hb hx hr
    rcases hh with ⟨h, h1⟩ | ⟨h, h1, h2⟩ | ⟨h, h1, h2⟩
    all_goals
      rw [h]
      go_enter Try.func16, Try.ntmps16
      go_wp2
      go_ret
      exact ⟨by first | rfl | simp_all, rfl⟩
theorem risf_any (w : World) (A : Option Addr) (c : Nat) (f : List UInt8) (hr : Bytes w w.heap.size A f) (hl : f.length ≤ 9223372036854775807) :
    Calls Try.prog 19 #[.slice A f.length c] w fun e w' => e = .returned (.bool (isF f)) ∧ w = w' := by
  rcases isF_ways f with ⟨h, h1⟩ | ⟨h9, x, hx, hh⟩
  · rw [h]
    go_enter Try.func19, Try.ntmps19
    go_wp2
    go_ret
    exact ⟨rfl, rfl⟩
  · obtain ⟨ad, b, rfl, hlt, hb, hc0⟩ := hr.at_ (k := 0) (by omega)
    have hc : w.cell? ad = some (.int .u8 (b.toNat : Int)) := hc0
    have hbx : b = x := by have := hb.out.symm.trans hx.out; injection this
    subst hbx
    clear hc0 hb hx hr
    rcases hh with ⟨h, h1⟩ | ⟨h, h1, h2⟩ | ⟨h, h1, h2⟩
    all_goals
      rw [h]
      go_enter Try.func19, Try.ntmps19
      go_wp2
      go_ret
      exact ⟨by first | rfl | simp_all, rfl⟩

theorem ones_all : ∀ b, b < 256 → Lib.onesCount b = onesB b := by decide +kernel
set_option maxRecDepth 100000 in
theorem onescount_any (b : UInt8) (w : World) : Calls Try.prog 17 #[.int .u8 (b.toNat : Int)] w fun e w' => e = .returned (.int .i64 (onesB b.toNat : Int)) ∧ w = w' := by
  have h0 : 0 ≤ (b.toNat : Int) := by omega
  have h1 : (b.toNat : Int) ≤ 255 := by have := b.toNat_lt; omega
  rw [← ones_all b.toNat b.toNat_lt]
  have hp := Lib.pop8_int (b.toNat : Int) h0 h1
  rw [Int.toNat_natCast] at hp
  rw [← hp]
  clear hp
  go_enter Try.func17, Try.ntmps17
  go_wp2
  go_ret
  refine ⟨?_, rfl⟩
  show Ending.returned (.int .i64 (wrap64 (Lib.pop8 _))) = _
  generalize Lib.pop8 (b.toNat : Int) = q
  unfold wrap64
  rfl

theorem cut_row {P : Program} {ad : Addr} {n c : Nat} {t : TypeId} (ht : P.underlying t = some (.slice (P.elem t))) (hsz : ∀ w' : World, (sizeOf (P.elem t)).run P w' = .ok 1 w') (l : Int) (k : Nat) (hl : l = (k : Int)) (hk : k ≤ n) (hn : n ≤ c) (hc : k < c) (kd : IntKind) :
    ∀ w' : World, (Instr.slice t (.slice (some ad) n c) (some (.int kd l)) none none).run P w' = .ok (.slice (some (ad.add k)) (n - k) (c - k)) w' := by
  intro w'
  subst hl
  rw [run_slice_l w' t (some ad) n c ht kd (k : Int) (by omega) (by omega), hsz]
  simp only [Result.andThen, sliced, Int.toNat_natCast, Nat.mul_one]
  rw [if_neg (by omega)]
  rfl
theorem elem_u8s : Try.prog.underlying 23 = some (.slice (Try.prog.elem 23)) := by kernel_rfl
theorem size_u8 (w : World) : (sizeOf (Try.prog.elem 23)).run Try.prog w = .ok 1 w := by kernel_rfl

theorem drop_next {α : Type} {f : List α} {k : Nat} {x : α} (h : f[1 + k]? = some x) : (f.drop 1).take (k + 1) = (f.drop 1).take k ++ [x] := take_next (by rw [List.getElem?_drop]; exact h)

set_option maxHeartbeats 1000000 in
theorem count_any (A : Option Addr) (c : Nat) (f : List UInt8) (w : World) (hr : Bytes w w.heap.size A f) (hl : f.length ≤ 1000000000) (hc : f.length ≤ c) :
    Calls Try.prog 10 #[.slice A f.length c] w fun e w' => e = .returned (.int .i64 (countF f : Int)) ∧ w = w' := by
  have hi := isf_any w A c f hr (by omega)
  cases hf : isF f with
  | false =>
    rw [hf] at hi
    have HI := hide hi
    have HC : Hid (countF f = 0) := if_neg (by rw [hf]; exact Bool.false_ne_true)
    clear hi hf hr
    go_enter Try.func10, Try.ntmps10
    go_wp2_with (go_at_call 16; refine halted ?_)
    refine go_on ?_
    refine HI.out.mono ?_
    rintro e w1 ⟨rfl, rfl⟩
    go_wp2
    go_ret
    exact ⟨by rw [HC.out]; rfl, rfl⟩
  | true =>
    obtain ⟨h9, -⟩ := isF_len hf
    rw [hf] at hi
    have HI := hide hi
    have HC : Hid (countF f = sumO (f.drop 1)) := if_pos hf
    clear hi hf
    obtain ⟨ad, b0, rfl, hadb, -, -⟩ := hr.at_ (k := 0) (by omega)
    have hcut := cut_row (ad := ad) (n := f.length) (c := c) (k := 1) (l := 1) elem_u8s size_u8 rfl (by omega) hc (by omega) .i64
    have hd : Bytes w w.heap.size (some (ad.add 1)) (f.drop 1) := Row.drop hr 1 |> fun h => by unfold Bytes; rw [List.map_drop]; exact h
    have hdl : (f.drop 1).length = f.length - 1 := List.length_drop
    have hLb : f.length - 1 ≤ 1000000000 := by omega
    have HDL := hide hdl
    generalize f.length - 1 = L at *
    generalize f.drop 1 = g at *
    generalize ad.add 1 = R at *
    clear hr hdl
    go_enter Try.func10, Try.ntmps10
    go_wp2_with (go_at_call 16; refine halted ?_)
    refine go_on ?_
    refine HI.out.mono ?_
    rintro e w1 ⟨rfl, rfl⟩
    go_wp2
    go_loop [3, 11] (fun n i => ∃ k : Nat, k ≤ L ∧ i = .int .i64 (k : Int) ∧ n = .int .i64 (sumO (g.take k) : Int)) (fun _ i => L - (intOf i).toNat)
    case atStart => exact ⟨0, Nat.zero_le _, rfl, rfl⟩
    case round =>
      obtain ⟨k, hk, rfl, rfl⟩ := hrel
      have hle := sumO_le (g.take k)
      have htl : (g.take k).length ≤ k := List.length_take_le _ _
      by_cases hlt : k < L
      · obtain ⟨ad2, b, e, _, hb, hc1⟩ := hd.at_ (k := k) (by rw [HDL.out]; exact hlt)
        injection e with e
        subst e
        have hn := sumO_snoc (g.take k) b
        rw [← take_next hb.out] at hn
        have h8 := onesB_le b.toNat
        have HN := hide hn
        clear hn hd hcut
        go_wp2_with (go_at_call 17; refine halted ?_)
        refine go_on ?_
        refine (onescount_any b _).mono ?_
        rintro e w1 ⟨rfl, rfl⟩
        go_wp2
        go_round
        case rel => exact ⟨k + 1, by omega, by go_num, by rw [HN.out]; go_num⟩
        case measure => simp [intOf]; omega
      · have hkl : g.take k = g := List.take_of_length_le (by rw [HDL.out]; omega)
        have HK := hide hkl
        clear hkl hd hcut
        go_wp2
        go_ret
        exact ⟨by rw [HC.out, HK.out]; rfl, rfl⟩

/-- The first k bits of a byte that are set. -/
def onesTo (b : Nat) : Nat → Nat
  | 0 => 0
  | k + 1 => onesTo b k + b / 2 ^ k % 2
theorem onesTo_le (b k : Nat) : onesTo b k ≤ k := by
  induction k with
  | zero => exact Nat.le_refl _
  | succ k ih => unfold onesTo; have := Nat.mod_lt (b / 2 ^ k) (show 0 < 2 by omega); omega
theorem onesTo_all (b : Nat) : onesTo b 8 = onesB b := by
  unfold onesB
  simp only [onesTo, Nat.pow_zero, Nat.div_one]
  omega
theorem shr_u8 (b : UInt8) {k : Nat} (hk : k < 8) : ∃ (Qt : Int) (q : Nat), (b.toNat : Int) / 2 ^ k = Qt ∧ 0 ≤ Qt ∧ Hid (Qt % 2 = (q : Int)) ∧ Hid (b.toNat / 2 ^ k % 2 = q) ∧ min k 8 = k :=
  ⟨((b.toNat / 2 ^ k : Nat) : Int), b.toNat / 2 ^ k % 2, by rw [Int.natCast_ediv, Int.natCast_pow]; rfl, Int.natCast_nonneg _, by show _ = _; omega, rfl, by omega⟩

set_option maxHeartbeats 1000000 in
theorem rcount_any (A : Option Addr) (c : Nat) (f : List UInt8) (w : World) (hr : Bytes w w.heap.size A f) (hl : f.length ≤ 1000000000) (hc : f.length ≤ c) :
    Calls Try.prog 14 #[.slice A f.length c] w fun e w' => e = .returned (.int .i64 (countF f : Int)) ∧ w = w' := by
  have hi := risf_any w A c f hr (by omega)
  cases hf : isF f with
  | false =>
    rw [hf] at hi
    have HI := hide hi
    have HC : Hid (countF f = 0) := if_neg (by rw [hf]; exact Bool.false_ne_true)
    clear hi hf hr
    go_enter Try.func14, Try.ntmps14
    go_wp2_with (go_at_call 19; refine halted ?_)
    refine go_on ?_
    refine HI.out.mono ?_
    rintro e w1 ⟨rfl, rfl⟩
    go_wp2
    refine wp_loop_rounds 1 ?_
    rw [rounds_succ]
    by_cases h1 : 1 < f.length
    · go_wp2
      go_ret
      exact ⟨by rw [HC.out]; rfl, rfl⟩
    · go_wp2
      go_ret
      exact ⟨by rw [HC.out]; rfl, rfl⟩
  | true =>
    obtain ⟨h9, -⟩ := isF_len hf
    rw [hf] at hi
    have HI := hide hi
    have HC : Hid (countF f = sumO (f.drop 1)) := if_pos hf
    have hgt : Hid (∀ k b, 1 ≤ k → f[k]? = some b → (f.drop 1).take (k + 1 - 1) = (f.drop 1).take (k - 1) ++ [b]) := by
      show ∀ _, _
      intro k b hk hb
      rw [← drop_next (f := f) (k := k - 1) (by rw [show 1 + (k - 1) = k by omega]; exact hb), show k - 1 + 1 = k + 1 - 1 by omega]
    have hgl : Hid ((f.drop 1).length = f.length - 1) := List.length_drop
    generalize f.drop 1 = g at *
    clear hi hf
    go_enter Try.func14, Try.ntmps14
    go_wp2_with (go_at_call 19; refine halted ?_)
    refine go_on ?_
    refine HI.out.mono ?_
    rintro e w1 ⟨rfl, rfl⟩
    go_wp2
    go_loop [4, 5, 6] (fun n i _ => ∃ k : Nat, 1 ≤ k ∧ k ≤ f.length ∧ i = .int .i64 (k : Int) ∧ n = .int .i64 (sumO (g.take (k - 1)) : Int)) (fun _ i _ => f.length - (intOf i).toNat)
    case atStart => exact ⟨1, by omega, by omega, rfl, rfl⟩
    case round =>
      obtain ⟨k, hk1, hk, rfl, rfl⟩ := hrel
      have hle := sumO_le (g.take (k - 1))
      have htl : (g.take (k - 1)).length ≤ k - 1 := List.length_take_le _ _
      by_cases hlt : k < f.length
      · obtain ⟨ad2, b, rfl, _, hb, hc1⟩ := hr.at_ hlt
        have hn := sumO_snoc (g.take (k - 1)) b
        rw [← hgt.out k b hk1 hb.out] at hn
        have HN := hide hn
        have h8 := onesB_le b.toNat
        have hS : sumO (g.take (k - 1)) ≤ 8000000000 := by omega
        generalize sumO (g.take (k - 1)) = S at *
        have hb0 := b.toNat_lt
        clear hn hr hle htl
        go_wp2
        go_loop [4, 6] (fun n j => ∃ m : Nat, m ≤ 8 ∧ j = .int .i64 (m : Int) ∧ n = .int .i64 ((S + onesTo b.toNat m : Nat) : Int)) (fun _ j => 8 - (intOf j).toNat)
        case atStart => exact ⟨0, by omega, rfl, rfl⟩
        case round =>
          obtain ⟨m, hm, rfl, rfl⟩ := hrel
          have hto := onesTo_le b.toNat m
          by_cases hml : m < 8
          · obtain ⟨Qt, q, hq1, hq2, HQ, HQ2, hmn⟩ := shr_u8 b hml
            have h2 : onesTo b.toNat (m + 1) = onesTo b.toNat m + b.toNat / 2 ^ m % 2 := rfl
            rw [HQ2.out] at h2
            have H2 := hide h2
            clear h2
            go_wp2
            go_round
            case rel => exact ⟨m + 1, by omega, by go_num, by rw [H2.out]; have := HQ.out; exact congrArg (Value.int .i64) (by omega)⟩
            case measure => simp [intOf]; omega
          · have h8' : m = 8 := by omega
            subst h8'
            have hall := hide (onesTo_all b.toNat)
            go_wp2
            go_round
            case rel => exact ⟨k + 1, by omega, by omega, by go_num, by rw [HN.out, hall.out]⟩
            case measure => simp [intOf]; omega
      · have hkl : g.take (k - 1) = g := List.take_of_length_le (by rw [hgl.out]; omega)
        have HK := hide hkl
        clear hkl hr
        go_wp2
        go_ret
        exact ⟨by rw [HC.out, HK.out]; rfl, rfl⟩
end Go.Proofs.Ytnmgbhpmmbhgoaa
