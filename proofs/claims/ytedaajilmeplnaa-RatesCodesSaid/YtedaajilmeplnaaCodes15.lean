/-
  RatesCodes, walked.
-/
import Derived.Test.YtedaajilmeplnaaRDecode
import Derived.Test.YtedaajilmeplnaaBack15
import Derived.Test.YtedaajilmeplnaaRdBytes
namespace Go.Proofs.Ytedaajilmeplnaa
open Go.RowKit
set_option linter.unusedVariables false

/-- The box of a schedule. -/
structure SB (q : Nat) (s : Sch) (A : Option Addr) (c : Nat) (W : World) : Prop where
  lt : q < W.heap.size
  x0 : W.cell? ⟨q, 0, none⟩ = some (.slice A s.brs.length c)
  x1 : W.cell? ⟨q, 1, none⟩ = some (.int .i64 s.ded)
  x2 : W.cell? ⟨q, 2, none⟩ = some (.int .i64 s.cred)
  x3 : W.cell? ⟨q, 3, none⟩ = some (.int .i64 s.lbp)
  x4 : W.cell? ⟨q, 4, none⟩ = some (.int .i64 s.lmost)
  x5 : W.cell? ⟨q, 5, none⟩ = some (.int .i64 s.lleast)
theorem SB.below {q : Nat} {s : Sch} {A : Option Addr} {c : Nat} {W W' : World} (h : SB q s A c W) (hb : Below W.heap.size W W') : SB q s A c W' :=
  ⟨Nat.lt_of_lt_of_le h.lt hb.size, (hb.cell (p := ⟨q, 0, none⟩) h.lt).trans h.x0, (hb.cell (p := ⟨q, 1, none⟩) h.lt).trans h.x1, (hb.cell (p := ⟨q, 2, none⟩) h.lt).trans h.x2, (hb.cell (p := ⟨q, 3, none⟩) h.lt).trans h.x3, (hb.cell (p := ⟨q, 4, none⟩) h.lt).trans h.x4, (hb.cell (p := ⟨q, 5, none⟩) h.lt).trans h.x5⟩
theorem SB.new (W : World) (s : Sch) (A : Option Addr) (c : Nat) (t : TypeId) : SB W.heap.size s A c (W.alloc (.cells #[.slice A s.brs.length c, .int .i64 s.ded, .int .i64 s.cred, .int .i64 s.lbp, .int .i64 s.lmost, .int .i64 s.lleast] t)) :=
  ⟨by simp, by simp, by simp, by simp, by simp, by simp, by simp⟩

set_option maxRecDepth 100000 in
set_option maxHeartbeats 4000000 in
theorem ratesCodes_any (s : Sch) (A : Option Addr) (c : Nat) (A2 : Option Addr) (bs : List UInt8) (c2 : Nat) (w : World) (hr : Row w w.heap.size A (brCells s.brs)) (hl : s.brs.length ≤ 9223372036854775807) (hr2 : Bytes w w.heap.size A2 bs) (hbl : bs.length ≤ c2) :
    Calls Try.prog 7 #[schV s A c, .slice A2 bs.length c2] w fun e w' => e = .returned (.bool true) ∧ Below w.heap.size w w' := by
  have E1 := hide fun W (hb : Below w.heap.size w W) => encode_any s A c W ((hr.below hb).more hb.size) hl
  have E2 := hide fun W (hb : Below w.heap.size w W) => rencode_any s A c W ((hr.below hb).more hb.size) hl
  have hb0 : Below w.heap.size w (w.alloc (.cells #[.slice A s.brs.length c, .int .i64 s.ded, .int .i64 s.cred, .int .i64 s.lbp, .int .i64 s.lmost, .int .i64 s.lleast] 24)) := (Below.refl w.heap.size w).alloc (Nat.le_refl _) _
  have hsb0 := SB.new w s A c 24
  clear hr
  unfold schV at *
  go_enter Try.func7, Try.ntmps7
  go_wp2_with (go_at_call 9; refine halted ?_)
  refine go_on ?_
  refine (awake_any _).mono ?_
  rintro e w1 ⟨rfl, hb1⟩
  have hsb1 := hsb0.below hb1
  have hbw := hb0.trans (hb1.mono (by simp))
  clear hb0 hb1 hsb0
  by_cases h1000 : 1000 < s.brs.length
  · obtain ⟨hs1, q0, q1, q2, q3, q4, q5⟩ := hsb1
    go_wp2
    go_ret
    exact ⟨rfl, hbw⟩
  by_cases h10000 : 10000 < bs.length
  · obtain ⟨hs1, q0, q1, q2, q3, q4, q5⟩ := hsb1
    go_wp2
    go_ret
    exact ⟨rfl, hbw⟩
  have D1 := hide fun W (hb : Below w.heap.size w W) => decode_any A2 c2 _ bs W rfl ((hr2.below hb).more hb.size) (by omega) hbl
  have D2 := hide fun W (hb : Below w.heap.size w W) => rdecode_any A2 c2 _ bs W rfl ((hr2.below hb).more hb.size) (by omega) hbl
  have HLEN : Hid (((decR bs).1).brs.length ≤ 9223372036854775807) := by
    show _ ≤ _
    unfold decR
    cases hn : numsIn bs with
    | none => simp [schZ]
    | some l =>
      simp only
      split
      · rename_i h
        have := (right_ded h.2).2.2.2.2.2.1
        show (schOf l).brs.length ≤ _
        omega
      · simp [schZ]
  generalize decR bs = dr at *
  obtain ⟨x, f⟩ := dr
  generalize encR s = er at *
  obtain ⟨us, e0⟩ := er
  dsimp only at HLEN
  have hHB := hsb1
  obtain ⟨hs1, q0, q1, q2, q3, q4, q5⟩ := hsb1
  clear hr2
  go_wp2_with (go_at_call 16; refine halted ?_)
  refine go_on ?_
  refine (E1.out _ hbw).mono ?_
  rintro e w2 ⟨A3, c3, rfl, hown3, hb2⟩
  dsimp only at hown3
  dsimp only
  have hbw2 := hbw.trans (hb2.mono hbw.size)
  have hHB2 := hHB.below hb2
  clear q0 q1 q2 q3 q4 q5 hb2 E1 hHB
  obtain ⟨hs2, q0, q1, q2, q3, q4, q5⟩ := hHB2
  go_wp2_with (go_at_call 17; refine halted ?_)
  refine go_on ?_
  refine (E2.out _ hbw2).mono ?_
  rintro e w3 ⟨A4, c4, rfl, hown4, hb3⟩
  dsimp only at hown4
  dsimp only
  have hbw3 := hbw2.trans (hb3.mono hbw2.size)
  have o3 := hown3.bytes.below hb3
  have o3 := o3.more hb3.size
  have o4 := hown4.bytes
  clear q0 q1 q2 q3 q4 q5 hb3 E2 hown3 hown4
  go_wp2_with (go_at_call 18; refine halted ?_)
  refine go_on ?_
  refine (D1.out _ hbw3).mono ?_
  rintro e w4 ⟨A5, c5, rfl, hr5, hb4⟩
  dsimp only at hr5
  dsimp only
  unfold schV at *
  have hbw4 := hbw3.trans (hb4.mono hbw3.size)
  have o3 := (o3.below hb4).more hb4.size
  have o4 := (o4.below hb4).more hb4.size
  have hHY := SB.new w4 x A5 c5 24
  have hba := hbw4.alloc hbw4.size (.cells #[.slice A5 x.brs.length c5, .int .i64 x.ded, .int .i64 x.cred, .int .i64 x.lbp, .int .i64 x.lmost, .int .i64 x.lleast] 24)
  have hr5 := (hr5.alloc (Nat.le_refl _) (.cells #[.slice A5 x.brs.length c5, .int .i64 x.ded, .int .i64 x.cred, .int .i64 x.lbp, .int .i64 x.lmost, .int .i64 x.lleast] 24)).more (show w4.heap.size ≤ (w4.alloc (.cells #[.slice A5 x.brs.length c5, .int .i64 x.ded, .int .i64 x.cred, .int .i64 x.lbp, .int .i64 x.lmost, .int .i64 x.lleast] 24)).heap.size by simp)
  have o3 := (o3.alloc (Nat.le_refl _) (.cells #[.slice A5 x.brs.length c5, .int .i64 x.ded, .int .i64 x.cred, .int .i64 x.lbp, .int .i64 x.lmost, .int .i64 x.lleast] 24)).more (show w4.heap.size ≤ (w4.alloc (.cells #[.slice A5 x.brs.length c5, .int .i64 x.ded, .int .i64 x.cred, .int .i64 x.lbp, .int .i64 x.lmost, .int .i64 x.lleast] 24)).heap.size by simp)
  have o4 := (o4.alloc (Nat.le_refl _) (.cells #[.slice A5 x.brs.length c5, .int .i64 x.ded, .int .i64 x.cred, .int .i64 x.lbp, .int .i64 x.lmost, .int .i64 x.lleast] 24)).more (show w4.heap.size ≤ (w4.alloc (.cells #[.slice A5 x.brs.length c5, .int .i64 x.ded, .int .i64 x.cred, .int .i64 x.lbp, .int .i64 x.lmost, .int .i64 x.lleast] 24)).heap.size by simp)
  have HDN := hide (D2.out _ hba)
  clear hb4 D1 D2
  go_wp2_with (go_at_call 19; refine halted ?_)
  refine go_on ?_
  refine HDN.out.mono ?_
  rintro e w5 ⟨A6, c6, rfl, hr6, hb5⟩
  dsimp only at hr6
  dsimp only
  unfold schV at *
  have hbw5 := hba.trans (hb5.mono hba.size)
  have hHY := hHY.below hb5
  have hr5 := (hr5.below hb5).more hb5.size
  have o3 := (o3.below hb5).more hb5.size
  have o4 := (o4.below hb5).more hb5.size
  clear hb5 HDN hba
  have hHZ := SB.new w5 x A6 c6 24
  have hbq : Below w5.heap.size w5 (w5.alloc (.cells #[.slice A6 x.brs.length c6, .int .i64 x.ded, .int .i64 x.cred, .int .i64 x.lbp, .int .i64 x.lmost, .int .i64 x.lleast] 24)) := (Below.refl _ _).alloc (Nat.le_refl _) _
  have hHY := hHY.below hbq
  have hr5 := (hr5.below hbq).more hbq.size
  have hr6 := (hr6.below hbq).more hbq.size
  have o3 := (o3.below hbq).more hbq.size
  have o4 := (o4.below hbq).more hbq.size
  have hba := hbw5.trans (hbq.mono hbw5.size)
  have HSM := hide (same15_any x x A5 A6 c5 c6 _ hr5 hr6 HLEN.out HLEN.out)
  clear hr5 hr6 hbq hbw5
  obtain ⟨hs5, q0, q1, q2, q3, q4, q5⟩ := hHY
  obtain ⟨-, p0, p1, p2, p3, p4, p5⟩ := hHZ
  go_wp2_with (go_at_call 20; refine halted ?_)
  refine go_on ?_
  refine HSM.out.mono ?_
  rintro e w6 ⟨⟨b, rfl, hbt⟩, hb6⟩
  have hb : b = true := hbt rfl
  subst hb
  have hbw6 := hba.trans (hb6.mono hba.size)
  have k3 := run_str (P := Try.prog) (dst := 9) (c := c3) Try.underlying37 Try.underlying5 Try.underlying9 (o3.below hb6) rfl
  have k4 := run_str (P := Try.prog) (dst := 9) (c := c4) Try.underlying37 Try.underlying5 Try.underlying9 (o4.below hb6) rfl
  clear hb6 HSM q0 q1 q2 q3 q4 q5 p0 p1 p2 p3 p4 p5 o3 o4 hba hbw4 hbw3 hbw2 hbt
  go_wp2
  go_ret
  exact ⟨by simp, hbw6⟩
end Go.Proofs.Ytedaajilmeplnaa
