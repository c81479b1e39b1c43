/-
  FrameSizes, walked.
-/
import Derived.Test.YtikfiicjgcnljaaFTake
import Derived.Test.YtikfiicjgcnljaaLaws05
namespace Go.Proofs.Ytikfiicjgcnljaa
open Go.RowKit
set_option linter.unusedVariables false

theorem OwnB.cap {w : World} {base : Nat} {e : TypeId} {A : Option Addr} {c : Nat} {bs : List UInt8} (h : OwnB w base e A c bs) : bs.length ≤ c := by
  obtain ⟨_, c2, e2, h1, _⟩ := own_shape h
  injection e2 with _ _ e3
  subst e3
  exact h1

theorem lt9 {m : Nat} (h : m ≤ 65536) : m < 128 ^ 9 := Nat.lt_of_le_of_lt h (by decide)
theorem fuel9 {m : Nat} (h : m ≤ 65536) : moreLE 10 m = moreLE 9 m := (moreLE_fuel (lt9 h)).symm
theorem numB_short {m : Nat} (h : m < 128) : (numB m).length = 1 := by
  have : m / 128 = 0 := by omega
  simp [numB, lowFirst, this, moreLE]
theorem numB_long {m : Nat} (h : 128 ≤ m) (h2 : m ≤ 65536) : (numB m).length = 1 + (numB (m / 128)).length := by
  have h0 : m / 128 ≠ 0 := by omega
  have e : moreLE 10 (m / 128) = UInt8.ofNat (m / 128 % 128 + 128) :: moreLE 9 (m / 128 / 128) := moreLE_step h0
  have e2 : moreLE 10 (m / 128 / 128) = moreLE 9 (m / 128 / 128) := fuel9 (by omega)
  unfold numB lowFirst
  rw [e, e2]
  simp
  omega
/-- The loop that counts a length's bytes. -/
def SizeRel (L : Nat) (n k : Value) : Prop :=
  ∃ (j m : Nat), n = .int .i64 ((j : Int) + 1) ∧ k = .int .i64 (m : Int) ∧ Hid (j + m ≤ L) ∧ Hid ((numB L).length = j + (numB m).length)

set_option maxRecDepth 100000 in
set_option maxHeartbeats 2000000 in
theorem frameSizes_any (kd : UInt8) (A : Option Addr) (c : Nat) (bs : List UInt8) (R : Option Addr) (rc : Nat) (rs : List UInt8) (w : World) (hr : Bytes w w.heap.size A bs) (hl : bs.length ≤ 9223372036854775807) (hr2 : Bytes w w.heap.size R rs) (hl2 : rs.length ≤ 9223372036854775807) :
    Calls Try.prog 4 #[.int .u8 (kd.toNat : Int), .slice A bs.length c, .slice R rs.length rc] w fun e w' => e = .returned (.bool true) ∧ Below w.heap.size w w' := by
  by_cases hL : ¬ (bs.length ≤ 65536 ∧ rs.length ≤ 1000)
  · have hL' : 65536 < (bs.length : Int) ∨ ((bs.length : Int) ≤ 65536 ∧ 1000 < (rs.length : Int)) := by omega
    clear hL hr hr2
    rcases hL' with h | ⟨h, h2⟩
    all_goals
      go_enter Try.func4, Try.ntmps4
      go_wp2_with (go_at_call 9; refine (awake_any _).mono ?_; rintro e w1 ⟨rfl, hb1⟩)
      go_ret
      exact ⟨rfl, hb1⟩
  · have hL2 : bs.length ≤ 65536 ∧ rs.length ≤ 1000 := by omega
    obtain ⟨hL, hR⟩ := hL2
    have HP := hide (putR_ok (k := kd) hL)
    have HTF := hide (takeF_frame (k := kd) hL rs)
    have HFL := hide (frameB_len kd bs)
    have hz : ((0 : Int) == 0) = true := rfl
    go_enter Try.func4, Try.ntmps4
    go_wp2_with (first | (go_at_call 9; refine (awake_any _).mono ?_; rintro e w1 ⟨rfl, hb1⟩) | (go_at_call 10; refine halted ?_))
    refine go_on ?_
    refine (put_any kd A _ c _ bs _ rfl (hr.below hb1) hb1.size (by omega)).mono ?_
    rw [HP.out]
    rintro e w2 ⟨A2, c2, rfl, hown2, hb2⟩
    have hb12 := hb1.trans (hb2.mono hb1.size)
    have hs12 := hb12.size
    go_wp2_with (at_builtin; refine halted ?_)
    refine go_on ?_
    have hb3 : Below w.heap.size w (w2.alloc (.cells #[] 5)) := hb12.alloc hs12 _
    have hown3 : OwnB (w2.alloc (.cells #[] 5)) w2.heap.size 5 (some ⟨w2.heap.size, 0, none⟩) 0 [] := OwnB.lit w2 5 [] (Nat.le_refl _) (by simp)
    refine wpList_append_bytes _ rfl (.tmp 36) (.tmp 37) 22 rfl w2.heap.size 5 Try.underlying22 info_u8 _ _ _ [] rfl rfl hown3 _ A2 _ c2 (frameB kd bs) rfl rfl (hown2.bytes.alloc (Nat.le_refl _) _) (by have := HFL.out; simp; omega) (by simp) ?_
    intro ds A4 c4 w4 hds hdl hown4 hg4 _
    have hde : ds = frameB kd bs := by rw [hds.out]; rfl
    subst hde
    have hb24 := hown3.below_grown ((Below.refl w2.heap.size w2).alloc (Nat.le_refl _) (.cells #[] 5)) hg4 (Nat.le_refl _) (by simp)
    have hb4 := hb12.trans (hb24.mono hs12)
    have hs24 := hb24.size
    clear hown3 hb3 hg4 hds hdl
    go_wp2_with (at_builtin; refine halted ?_)
    refine go_on ?_
    have hbr4 := (hr2.belowLe hb4 (Nat.le_refl _)).more hb4.size
    refine wpList_append_bytes _ rfl (.tmp 38) (.tmp 39) 22 rfl w2.heap.size 5 Try.underlying22 info_u8 _ _ _ (frameB kd bs) rfl rfl hown4 _ R _ rc rs rfl rfl hbr4 (by have := HFL.out; omega) hs24 ?_
    intro ds A5 c5 w5 hds hdl hown5 hg5 _
    have hb5 := hown4.below_grown hb4 hg5 hs12 hb4.size
    have hb25 := hown4.below_grown hb24 hg5 (Nat.le_refl _) hs24
    have hdl5 : ds.length ≤ 140737488350000 := by have := HFL.out; rw [hds.out, List.length_append]; omega
    have ht5 := ftake_any A5 w5.heap.size c5 _ ds w5 rfl hown5.bytes (Nat.le_refl _) hdl5 (OwnB.cap hown5)
    have e5 : takeF ds = some (kd, bs, rs) := by rw [hds.out]; exact HTF.out
    rw [e5] at ht5
    have HT := hide ht5
    clear ht5 e5 hdl5
    clear hg5 hds hdl hb4 hb24 hown4 hown5
    go_wp2_with (go_at_call 12; refine halted ?_)
    refine go_on ?_
    refine HT.out.mono ?_
    rintro e w6 ⟨A6, c6, A7, c7, rfl, h2, h3, h4, h5, h6⟩
    dsimp only [tookF] at *
    have HN := hide (show (numB bs.length).length + bs.length + 5 = (frameB kd bs).length by unfold frameB textB; rw [List.length_append, List.length_cons, List.length_append, four_len])
    have hb6 := hb12.trans ((hb25.trans (h6.mono hb25.size)).mono hs12)
    go_wp2
    go_loop [13, 14] (fun n k => SizeRel bs.length n k) (fun _ k => (intOf k).toNat)
    case atStart => exact ⟨0, bs.length, rfl, rfl, by show _ ≤ _; omega, by show _ = _; omega⟩
    case round =>
      obtain ⟨j, m, rfl, rfl, HJ, HM⟩ := hrel
      by_cases hm : 128 ≤ m
      · have hj2 := HJ.out
        have hjI : (j : Int) ≤ 65536 := by omega
        have hmI : (m : Int) ≤ 65536 := by omega
        have hmI2 : 128 ≤ (m : Int) := by omega
        have HM2 := hide (numB_long hm (by omega))
        have HM3 := hide hm
        clear hj2 hm
        go_wp2
        refine ⟨⟨j + 1, m / 128, by go_num, by go_num, ?_, ?_⟩, ?_⟩
        · show _ ≤ _
          have := HM3.out; have := HJ.out; omega
        · show _ = _
          rw [HM.out, HM2.out]; omega
        · have := HM3.out; simp [intOf]; omega
      · have hm2 : (m : Int) < 128 := by omega
        have hlenI : ((frameB kd bs).length : Int) = (bs.length : Int) + ((j : Int) + 1) + 5 := by
          have h1 := HN.out
          have h2 := HM.out
          rw [numB_short (m := m) (by omega)] at h2
          omega
        have hj2 := HJ.out
        have hjI : (j : Int) ≤ 65536 := by omega
        have hw7 : Below w.heap.size w (w6.alloc (.cells #[.int .u8 (kd.toNat : Int), .slice A6 bs.length c6] 29)) := hb6.alloc hb6.size _
        have k1 := run_str (P := Try.prog) (dst := 9) (c := c6) Try.underlying22 Try.underlying5 Try.underlying9 (h2.alloc (Nat.le_refl _) (.cells #[.int .u8 (kd.toNat : Int), .slice A6 bs.length c6] 29)) rfl
        have k2 := run_str (P := Try.prog) (dst := 9) (c := c7) Try.underlying22 Try.underlying5 Try.underlying9 (h4.alloc (Nat.le_refl _) (.cells #[.int .u8 (kd.toNat : Int), .slice A6 bs.length c6] 29)) rfl
        have k3 := run_str (P := Try.prog) (dst := 9) (c := c) Try.underlying22 Try.underlying5 Try.underlying9 (hr.belowLe hw7 (Nat.le_refl _)) rfl
        have k4 := run_str (P := Try.prog) (dst := 9) (c := rc) Try.underlying22 Try.underlying5 Try.underlying9 (hr2.belowLe hw7 (Nat.le_refl _)) rfl
        clear hj2 hL hR hl hl2 HJ HM HN h2 h3 h4 h5 h6
        generalize (frameB kd bs).length = FL at *
        go_wp2
        go_ret
        exact ⟨rfl, hw7⟩
end Go.Proofs.Ytikfiicjgcnljaa
