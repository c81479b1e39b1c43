/-
  The laws of chapter 5 on Put, walked.
-/
import Derived.Test.YtikfiicjgcnljaaFrame
import Derived.Test.YtikfiicjgcnljaaStr
namespace Go.Proofs.Ytikfiicjgcnljaa
open Go.RowKit
set_option linter.unusedVariables false

theorem awake_any (w : World) : Calls Try.prog 9 #[] w fun e w' => e = .returned (.bool true) ∧ Below w.heap.size w w' := by
  have hr : Bytes (w.alloc (.cells #[.int .u8 7] 5)) (w.heap.size + 1) (some ⟨w.heap.size, 0, none⟩) [7] := Row.new w #[.int .u8 7] 5 (0, 0)
  have hp := put_any 1 (some ⟨w.heap.size, 0, none⟩) (w.heap.size + 1) 1 1 [7] _ rfl hr (by simp) (by simp)
  have e1 : putR 1 [7] = ([1, 1, 7, 33, 172, 249, 56], 0) := by decide +kernel
  rw [e1] at hp
  have HP := hide hp
  clear hp e1 hr
  go_enter Try.func9, Try.ntmps9
  go_wp2_with (go_at_call 10; refine halted ?_)
  refine go_on ?_
  refine HP.out.mono ?_
  rintro e w1 ⟨A, c, rfl, hown, hb⟩
  obtain ⟨g, rfl, _, _⟩ := hown.form (by simp)
  have h2 := hown.cellAt (j := 2) (b := 7) rfl
  have hbw := ((Below.refl w.heap.size w).alloc (Nat.le_refl _) (.cells #[.int .u8 7] 5)).trans (hb.mono (by simp))
  have h2' : w1.cell? ⟨g, 2, none⟩ = some (.int .u8 7) := h2
  clear hown hb h2
  go_wp2
  go_ret
  exact ⟨rfl, hbw⟩

theorem framePuts_any (kd : UInt8) (A : Option Addr) (c : Nat) (bs : List UInt8) (w : World) (hr : Bytes w w.heap.size A bs) (hl : bs.length ≤ 9223372036854775807) :
    Calls Try.prog 3 #[.int .u8 (kd.toNat : Int), .slice A bs.length c] w fun e w' => e = .returned (.bool true) ∧ Below w.heap.size w w' := by
  by_cases hL : 200000 < bs.length
  · go_enter Try.func3, Try.ntmps3
    go_wp2_with (go_at_call 9; refine (awake_any _).mono ?_; rintro e w1 ⟨rfl, hb1⟩)
    go_ret
    exact ⟨rfl, hb1⟩
  go_enter Try.func3, Try.ntmps3
  go_wp2_with (first | (go_at_call 9; refine (awake_any _).mono ?_; rintro e w1 ⟨rfl, hb1⟩) | (go_at_call 10; refine halted ?_))
  refine go_on ?_
  refine (put_any kd A _ c _ bs _ rfl (hr.below hb1) hb1.size (by omega)).mono ?_
  rintro e w2 ⟨A2, c2, rfl, hown2, hb2⟩
  have hb12 := hb1.trans (hb2.mono hb1.size)
  go_wp2_with (go_at_call 11; refine halted ?_)
  refine go_on ?_
  refine (rput_any kd A _ c _ bs _ rfl (hr.below hb12) hb12.size (by omega)).mono ?_
  rintro e w3 ⟨A3, c3, rfl, hown3, hb3⟩
  have hb13 := hb12.trans (hb3.mono hb12.size)
  have k2 := run_str (P := Try.prog) (dst := 9) (c := c2) Try.underlying22 Try.underlying5 Try.underlying9 (hown2.bytes.below hb3) rfl
  have k3 := run_str (P := Try.prog) (dst := 9) (c := c3) Try.underlying22 Try.underlying5 Try.underlying9 hown3.bytes rfl
  clear hown2 hown3 hb2 hb3 hb12 hb1 hr
  go_wp2
  go_ret
  exact ⟨rfl, hb13⟩
end Go.Proofs.Ytikfiicjgcnljaa
