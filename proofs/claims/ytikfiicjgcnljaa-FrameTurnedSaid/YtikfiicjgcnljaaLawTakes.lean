/-
  FrameTakes, walked.
-/
import Derived.Test.YtikfiicjgcnljaaSame
import Derived.Test.YtikfiicjgcnljaaLaws05
namespace Go.Proofs.Ytikfiicjgcnljaa
open Go.RowKit
set_option linter.unusedVariables false

theorem FrRow.below {w w' : World} {A : Option Addr} {l : List Fr} (h : FrRow w w.heap.size A l) (hb : Below w.heap.size w w') : FrRow w' w'.heap.size A l :=
  ⟨(h.1.below hb).more hb.size, fun f hf => ⟨((h.2 f hf).1.below hb).more hb.size, (h.2 f hf).2⟩⟩

set_option maxRecDepth 100000 in
set_option maxHeartbeats 2000000 in
theorem frameTakes_any (A : Option Addr) (c : Nat) (bs : List UInt8) (w : World) (hr : Bytes w w.heap.size A bs) (hl : bs.length ≤ 9223372036854775807) (hc : bs.length ≤ c) :
    Calls Try.prog 5 #[.slice A bs.length c] w fun e w' => e = .returned (.bool true) ∧ Below w.heap.size w w' := by
  by_cases hL : 200000 < bs.length
  · go_enter Try.func5, Try.ntmps5
    go_wp2_with (go_at_call 9; refine (awake_any _).mono ?_; rintro e w1 ⟨rfl, hb1⟩)
    go_ret
    exact ⟨rfl, hb1⟩
  have HC := hide hc
  clear hc
  go_enter Try.func5, Try.ntmps5
  go_wp2_with (first | (go_at_call 9; refine (awake_any _).mono ?_; rintro e w1 ⟨rfl, hb1⟩) | (go_at_call 12; refine halted ?_))
  refine go_on ?_
  refine (ftake_any A _ c _ bs _ rfl (hr.below hb1) hb1.size (by omega) HC.out (X := fun _ => False) Away.of_false (fun _ h => h.elim)).mono ?_
  have HS0 : ∃ k b r e0, Hid (tookF (takeF bs) = (k, b, r, e0)) := ⟨_, _, _, _, rfl⟩
  obtain ⟨k, b, r, e0, HT⟩ := HS0
  rw [HT.out]
  rintro e w2 ⟨A2, c2, A3, c3, rfl, h2, h3, h4, h5, h6, -, -⟩
  have hb2 := hb1.trans (h6.mono hb1.size)
  clear h6
  go_wp2_with (go_at_call 13; refine halted ?_)
  refine go_on ?_
  have hbA := hb2.alloc hb2.size (.cells #[.int .u8 (k.toNat : Int), .slice A2 b.length c2] 29)
  have hbA2 := (Below.refl w2.heap.size w2).alloc (Nat.le_refl _) (.cells #[.int .u8 (k.toNat : Int), .slice A2 b.length c2] 29)
  refine (rftake_any A _ c _ bs _ rfl (hr.below hbA) hbA.size (by omega) HC.out (X := fun _ => False) Away.of_false (fun _ h => h.elim)).mono ?_
  rw [HT.out]
  rintro e w3 ⟨A4, c4, A5, c5, rfl, i2, i3, i4, i5, i6, -, -⟩
  have hb3 := hbA.trans (i6.mono hbA.size)
  have hb23 := hbA2.trans (i6.mono hbA2.size)
  dsimp only at *
  go_wp2_with (go_at_call 14; refine halted ?_)
  refine go_on ?_
  have hbB := hb3.alloc hb3.size (.cells #[.int .u8 (k.toNat : Int), .slice A4 b.length c4] 33)
  have hbB3 := (Below.refl w3.heap.size w3).alloc (Nat.le_refl _) (.cells #[.int .u8 (k.toNat : Int), .slice A4 b.length c4] 33)
  have hbB2 := hb23.trans (hbB3.mono hb23.size)
  refine (scan_any A c _ bs _ rfl ((hr.below hbB).more hbB.size) (by omega) HC.out).mono ?_
  rintro e w4 ⟨l1, r1, A6, c6, rfl, HS1, n1, n2, n3, n4⟩
  have hb4 := hbB.trans (n4.mono hbB.size)
  go_wp2_with (go_at_call 15; refine halted ?_)
  refine go_on ?_
  refine (rscan_any A _ c _ bs _ rfl (hr.below hb4) hb4.size (by omega) HC.out).mono ?_
  rintro e w5 ⟨l2, r2, A7, c7, rfl, HS2, m1, m2, m3, m4⟩
  have hb5 := hb4.trans (m4.mono hb4.size)
  obtain ⟨hfs, hrr⟩ := HS1.out.unique HS2.out
  subst hrr
  have q1 : FrRow w5 w5.heap.size A6 l1 := ⟨(n1.below m4).more m4.size, fun f hf => ⟨((n3.below m4) f hf).1, (n3 f hf).2.1⟩⟩
  have q2 : FrRow w5 w5.heap.size A7 l2 := ⟨m1, fun f hf => ⟨(m3 f hf).1, (m3 f hf).2.1⟩⟩
  have hll : l1.length ≤ 1000000 := by
    have h1 := flat_len (l1.map Fr.pair)
    have h2 := congrArg List.length HS1.out.1
    rw [List.length_append] at h2
    rw [List.length_map] at h1
    omega
  have HSM := hide (same_any A6 A7 c6 c7 _ _ l1 l2 w5 q1 q2 rfl rfl hfs hll)
  clear q1 q2 hll hfs n1 n3 m1 m3
  go_wp2_with (go_at_call 16; refine halted ?_)
  refine go_on ?_
  refine HSM.out.mono ?_
  rintro e w6 ⟨rfl, hb6⟩
  have hbN := hb5.trans (hb6.mono hb5.size)
  have d46 := m4.trans (hb6.mono m4.size)
  have d36 := n4.trans (d46.mono n4.size)
  have d3 : Below w3.heap.size w3 w6 := hbB3.trans (d36.mono hbB3.size)
  have d26 := i6.trans (d3.mono i6.size)
  have d2 : Below w2.heap.size w2 w6 := hbA2.trans (d26.mono hbA2.size)
  have x0 := d26.cell (p := ⟨w2.heap.size, 0, none⟩) (by simp)
  have x1 := d26.cell (p := ⟨w2.heap.size, 1, none⟩) (by simp)
  have y0 := d36.cell (p := ⟨w3.heap.size, 0, none⟩) (by simp)
  have y1 := d36.cell (p := ⟨w3.heap.size, 1, none⟩) (by simp)
  simp at x0 x1 y0 y1
  have k1 := run_str (P := Try.prog) (dst := 9) (c := c2) Try.underlying22 Try.underlying5 Try.underlying9 (h2.below d2) rfl
  have k2 := run_str (P := Try.prog) (dst := 9) (c := c3) Try.underlying22 Try.underlying5 Try.underlying9 (h4.below d2) rfl
  have k3 := run_str (P := Try.prog) (dst := 9) (c := c4) Try.underlying22 Try.underlying5 Try.underlying9 (i2.below d3) rfl
  have k4 := run_str (P := Try.prog) (dst := 9) (c := c5) Try.underlying22 Try.underlying5 Try.underlying9 (i4.below d3) rfl
  clear h2 h4 i2 i4 d46 d36 d3 d26 d2 hb6 m4 n4 i6 hbA hbA2 hbB hbB2 hbB3 hb23 hb2 hb3 hb4 hb5
  go_wp2
  go_ret
  exact ⟨rfl, hbN⟩
end Go.Proofs.Ytikfiicjgcnljaa
