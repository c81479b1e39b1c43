/-
  The check sum of bytes (check.Add, check.Sum) and the reference's: what they compute.
-/
import Derived.Test.YtnmgbhpmmbhgoaaRest
namespace Go.Proofs.Ytnmgbhpmmbhgoaa
open Go.RowKit
set_option linter.unusedVariables false

/-- What Add answers: the sum, and its error. -/
def addR (s : Nat) (bs : List UInt8) : Nat × Nat := if s < 2147483647 then (addS s bs, 0) else (0, 1)

theorem addR_ok {s : Nat} {bs : List UInt8} (h : s < 2147483647) : addR s bs = (addS s bs, 0) := if_pos h
theorem addR_no {s : Nat} {bs : List UInt8} (h : ¬ s < 2147483647) : addR s bs = (0, 1) := if_neg h

theorem addS_next {s : Nat} {bs : List UInt8} {k : Nat} {b : UInt8} (h : bs[k]? = some b) : addS s (bs.take (k + 1)) = (addS s (bs.take k) * 16807 + b.toNat + 1) % 2147483647 := by
  rw [take_next h, addS_snoc]

theorem isB_one (s : Nat) : isB [(s : Int)] = decide (s < 2147483647) := by
  simp [isB]; omega

theorem add_any (s : Nat) (A : Option Addr) (B c : Nat) (bs : List UInt8) (w : World) (hs : s ≤ 4294967295) (hr : Bytes w B A bs) (hB : B ≤ w.heap.size) (hl : bs.length ≤ 4611686018427387904) :
    Calls Try.prog 25 #[.int .u32 (s : Int), .slice A bs.length c] w fun e w' => e = .returned (.tuple #[.int .u32 ((addR s bs).1 : Int), .int .i64 ((addR s bs).2 : Int)]) ∧ Below w.heap.size w w' := by
  have hr1 : Bytes (w.alloc (.cells #[.int .u32 (s : Int)] 46)) B A bs := hr.belowLe (Below.alloc (Below.refl w.heap.size w) (Nat.le_refl _) _) hB
  have hn := Row.new w #[.int .u32 (s : Int)] 46 (0, 0)
  have hbel : Below w.heap.size w (w.alloc (.cells #[.int .u32 (s : Int)] 46)) := Below.alloc (Below.refl w.heap.size w) (Nat.le_refl _) _
  have e1 := isB_one s
  by_cases hp : s < 2147483647
  · have hi : isB [(s : Int)] = true := by rw [e1]; simpa using hp
    have HI := hide hi
    have HA := hide (addR_ok (bs := bs) hp)
    clear hi e1
    go_enter Try.func25, Try.ntmps25
    go_wp2_with (go_at_call 27; refine (is_any _ _ 1 [(s : Int)] _ hn (by simp) (by simp; omega)).mono ?_; rw [HI.out]; rintro e w' ⟨rfl, rfl⟩)
    clear hn
    go_loop [6, 17] (fun t i => ∃ k : Nat, k ≤ bs.length ∧ i = .int .i64 (k : Int) ∧ t = .int .u64 (addS s (bs.take k) : Int)) (fun _ i => bs.length - (intOf i).toNat)
    case atStart => exact ⟨0, Nat.zero_le _, rfl, rfl⟩
    case round =>
      obtain ⟨k, hk, rfl, rfl⟩ := hrel
      have hlt1 := addS_lt s (bs.take k) hp
      by_cases hlt : k < bs.length
      · obtain ⟨ad, b, rfl, _, hb, hc⟩ := hr1.at_ hlt
        have hb1 := b.toNat_lt
        have HN := hide (addS_next (s := s) hb.out)
        clear hr hr1
        go_wp2_with (go_at_call 28; refine (rest_any _ _ (by omega) (by omega)).mono ?_; rintro e w' ⟨rfl, rfl⟩)
        go_round
        case rel => exact ⟨k + 1, by omega, by go_num, by rw [HN.out]; simp⟩
        case measure => simp [intOf]; omega
      · have hk' : bs.take k = bs := List.take_of_length_le (by omega)
        have HK := hide hk'
        clear hk' hr hr1
        go_wp2
        go_ret2
        exact ⟨by rw [HA.out, HK.out]; rfl, hbel⟩
  · have hi : isB [(s : Int)] = false := by rw [e1]; simpa using hp
    have HI := hide hi
    have HA := hide (addR_no (bs := bs) hp)
    clear hi e1
    go_enter Try.func25, Try.ntmps25
    go_wp2_with (go_at_call 27; refine (is_any _ _ 1 [(s : Int)] _ hn (by simp) (by simp; omega)).mono ?_; rw [HI.out]; rintro e w' ⟨rfl, rfl⟩)
    go_ret2
    exact ⟨by rw [HA.out]; rfl, hbel⟩

theorem sum_any (A : Option Addr) (B c : Nat) (bs : List UInt8) (w : World) (hr : Bytes w B A bs) (hB : B ≤ w.heap.size) (hl : bs.length ≤ 4611686018427387904) :
    Calls Try.prog 22 #[.slice A bs.length c] w fun e w' => e = .returned (.int .u32 (addS 0 bs : Int)) ∧ Below w.heap.size w w' := by
  have HA := hide (addR_ok (s := 0) (bs := bs) (by omega))
  have h0 := add_any 0 A B c bs w (by omega) hr hB hl
  rw [HA.out] at h0
  have H0 := hide h0
  clear h0
  go_enter Try.func22, Try.ntmps22
  go_wp2_with (go_at_call 25; refine H0.out.mono ?_; rintro e w' ⟨rfl, hb⟩)
  go_ret
  exact ⟨rfl, hb⟩

theorem radd_any (s : Nat) (A : Option Addr) (B c : Nat) (bs : List UInt8) (w : World) (hs : s ≤ 4294967295) (hr : Bytes w B A bs) (hl : bs.length ≤ 4611686018427387904) :
    Calls Try.prog 26 #[.int .u32 (s : Int), .slice A bs.length c] w fun e w' => e = .returned (.tuple #[.int .u32 ((addR s bs).1 : Int), .int .i64 ((addR s bs).2 : Int)]) ∧ w = w' := by
  by_cases hp : s < 2147483647
  · have HA := hide (addR_ok (bs := bs) hp)
    have hpI : (s : Int) < 2147483647 := by omega
    have h0 : 0 ≤ (s : Int) := by omega
    have Hp := hide hp
    clear hp hs
    generalize hx : (s : Int) = x at *
    have HX := hide hx
    clear hx
    go_enter Try.func26, Try.ntmps26
    go_wp2
    go_loop [6, 7] (fun t i => ∃ k : Nat, k ≤ bs.length ∧ i = .int .i64 (k : Int) ∧ t = .int .u64 (addS s (bs.take k) : Int)) (fun _ i => bs.length - (intOf i).toNat)
    case atStart => exact ⟨0, Nat.zero_le _, rfl, by rw [← HX.out]; rfl⟩
    case round =>
      obtain ⟨k, hk, rfl, rfl⟩ := hrel
      have hlt1 := addS_lt s (bs.take k) Hp.out
      by_cases hlt : k < bs.length
      · obtain ⟨ad, b, rfl, _, hb, hc⟩ := hr.at_ hlt
        have hb1 := b.toNat_lt
        have HN := hide (addS_next (s := s) hb.out)
        clear hr
        go_wp2
        go_round
        case rel => exact ⟨k + 1, by omega, by go_num, by rw [HN.out]; simp⟩
        case measure => simp [intOf]; omega
      · have hk' : bs.take k = bs := List.take_of_length_le (by omega)
        have HK := hide hk'
        clear hk' hr
        go_wp2
        go_ret2
        exact ⟨by rw [HA.out, HK.out]; rfl, rfl⟩
  · have HA := hide (addR_no (bs := bs) hp)
    have hpI : 2147483647 ≤ (s : Int) := by omega
    have hsI : (s : Int) ≤ 4294967295 := by omega
    clear hp hs
    generalize (s : Int) = x at *
    go_enter Try.func26, Try.ntmps26
    go_wp2
    go_ret2
    exact ⟨by rw [HA.out]; rfl, rfl⟩

theorem rsum_any (A : Option Addr) (B c : Nat) (bs : List UInt8) (w : World) (hr : Bytes w B A bs) (hl : bs.length ≤ 4611686018427387904) :
    Calls Try.prog 24 #[.slice A bs.length c] w fun e w' => e = .returned (.int .u32 (addS 0 bs : Int)) ∧ w = w' := by
  have HA := hide (addR_ok (s := 0) (bs := bs) (by omega))
  have h0 := radd_any 0 A B c bs w (by omega) hr hl
  rw [HA.out] at h0
  have H0 := hide h0
  clear h0
  go_enter Try.func24, Try.ntmps24
  go_wp2_with (go_at_call 26; refine H0.out.mono ?_; rintro e w' ⟨rfl, rfl⟩)
  go_ret
  exact ⟨rfl, rfl⟩
end Go.Proofs.Ytnmgbhpmmbhgoaa
