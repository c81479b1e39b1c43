/-
  RatesBack, walked.
-/
import Derived.Test.YtedaajilmeplnaaDecode
import Derived.Test.YtedaajilmeplnaaLaws15
import Derived.Test.YtedaajilmeplnaaRises15
import Derived.Test.YtedaajilmeplnaaStr
namespace Go.Proofs.Ytedaajilmeplnaa
open Go.RowKit
set_option linter.unusedVariables false

theorem pairsOf_flat (l : List (Int × Int)) : pairsOf (l.flatMap fun b => [b.1, b.2]) = l := by
  induction l with
  | nil => rfl
  | cons a l ih => simp [pairsOf, ih]
theorem flat2_len (l : List (Int × Int)) : (l.flatMap fun b => [b.1, b.2]).length = 2 * l.length := by
  induction l with
  | nil => rfl
  | cons a l ih => simp only [List.flatMap_cons, List.length_append, List.length_cons, List.length_nil, ih]; omega
theorem numsOf_len (s : Sch) : (numsOf s).length = 6 + 2 * s.brs.length := by
  unfold numsOf numsTo numsEnd
  rw [List.take_length]
  simp only [List.length_append, List.length_cons, flat2_len, List.length_nil]
  omega
/-- What was encoded is decoded. -/
theorem decR_enc {s : Sch} (h : s.right = true) : decR (encR s).1 = (s, 0) := by
  obtain ⟨a1, a2, a3, a4, a5, a6, a7, a8⟩ := right_all h
  rw [encR_ok h]
  have hall : ∀ x ∈ numsOf s, 0 ≤ x ∧ x ≤ 1125899906842624 := by
    intro x hx
    unfold numsOf numsTo numsEnd at hx
    rw [List.take_length] at hx
    rcases List.mem_append.1 hx with h1 | h1
    · rcases List.mem_cons.1 h1 with h2 | h2
      · subst h2; omega
      · obtain ⟨b, hb1, hb2⟩ := List.mem_flatMap.1 h2
        obtain ⟨j, hj⟩ := List.mem_iff_getElem?.1 hb1
        have hget := brsOk_get a8 (f := b.1) (p := b.2) hj
        simp at hb2
        rcases hb2 with rfl | rfl <;> omega
    · simp at h1
      rcases h1 with rfl | rfl | rfl | rfl | rfl <;> omega
  have hlen := numsOf_len s
  have hsch : schOf (numsOf s) = s := by
    have hF := flat2_len s.brs
    have e : numsOf s = ((s.brs.length : Int) :: (s.brs.flatMap fun b => [b.1, b.2])) ++ [s.ded, s.cred, s.lbp, s.lmost, s.lleast] := by
      unfold numsOf numsTo numsEnd
      rw [List.take_length]
    have hg : ∀ i x, [s.ded, s.cred, s.lbp, s.lmost, s.lleast][i]? = some x → (numsOf s).getD (1 + 2 * s.brs.length + i) 0 = x := by
      intro i x hx
      rw [List.getD_eq_getElem?_getD, e, List.getElem?_append_right (by simp only [List.length_cons, hF]; omega)]
      rw [show 1 + 2 * s.brs.length + i - ((s.brs.length : Int) :: (s.brs.flatMap fun b => [b.1, b.2])).length = i by simp only [List.length_cons, hF]; omega, hx]
      rfl
    have hp : pairsOf (((numsOf s).drop 1).take ((numsOf s).length - 6)) = s.brs := by
      rw [hlen, e, show 6 + 2 * s.brs.length - 6 = 2 * s.brs.length by omega]
      rw [List.cons_append, List.drop_one, List.tail_cons, List.take_left' hF]
      exact pairsOf_flat _
    unfold schOf
    rw [hp, hlen, show 6 + 2 * s.brs.length - 5 = 1 + 2 * s.brs.length + 0 by omega, show 6 + 2 * s.brs.length - 4 = 1 + 2 * s.brs.length + 1 by omega, show 6 + 2 * s.brs.length - 3 = 1 + 2 * s.brs.length + 2 by omega,
      show 6 + 2 * s.brs.length - 2 = 1 + 2 * s.brs.length + 3 by omega, show 6 + 2 * s.brs.length - 1 = 1 + 2 * s.brs.length + 4 by omega]
    rw [hg 0 s.ded rfl, hg 1 s.cred rfl, hg 2 s.lbp rfl, hg 3 s.lmost rfl, hg 4 s.lleast rfl]
  refine (decR_yes (l := numsOf s) (numsIn_put _ hall) ⟨?_, by rw [hsch]; exact h⟩).trans (by rw [hsch])
  unfold shapeB
  have hh : (numsOf s).headD 0 = (s.brs.length : Int) := rfl
  rw [hh, hlen]
  simp
  omega

/-- The two codes are alike. -/
def SameR (s1 s2 : Sch) (e : Ending) : Prop := ∃ b, e = .returned (.bool b) ∧ (encR s1 = encR s2 → b = true)

def SchT (s : Sch) (A : Option Addr) (c : Nat) : Array Value := #[.slice A s.brs.length c, .int .i64 s.ded, .int .i64 s.cred, .int .i64 s.lbp, .int .i64 s.lmost, .int .i64 s.lleast]

set_option maxRecDepth 100000 in
set_option maxHeartbeats 4000000 in
theorem same15_any (s1 s2 : Sch) (A1 A2 : Option Addr) (c1 c2 : Nat) (w : World) (h1 : Row w w.heap.size A1 (brCells s1.brs)) (h2 : Row w w.heap.size A2 (brCells s2.brs)) (hl1 : s1.brs.length ≤ 9223372036854775807) (hl2 : s2.brs.length ≤ 9223372036854775807) :
    Calls Try.prog 20 #[schV s1 A1 c1, schV s2 A2 c2] w fun e w' => SameR s1 s2 e ∧ Below w.heap.size w w' := by
  have e1 := fun W (hb : Below w.heap.size w W) => rencode_any s1 A1 c1 W ((h1.below hb).more hb.size) hl1
  have e2 := fun W (hb : Below w.heap.size w W) => rencode_any s2 A2 c2 W ((h2.below hb).more hb.size) hl2
  unfold SameR
  generalize encR s1 = r1 at *
  generalize encR s2 = r2 at *
  obtain ⟨us1, x1⟩ := r1
  obtain ⟨us2, x2⟩ := r2
  unfold schV at *
  have E1 := hide e1
  have E2 := hide e2
  have hbA : Below w.heap.size w ((w.alloc (.cells #[.slice A1 s1.brs.length c1, .int .i64 s1.ded, .int .i64 s1.cred, .int .i64 s1.lbp, .int .i64 s1.lmost, .int .i64 s1.lleast] 24)).alloc (.cells #[.slice A2 s2.brs.length c2, .int .i64 s2.ded, .int .i64 s2.cred, .int .i64 s2.lbp, .int .i64 s2.lmost, .int .i64 s2.lleast] 24)) := ((Below.refl w.heap.size w).alloc (Nat.le_refl _) _).alloc (by simp) _
  clear e1 e2 h1 h2
  go_enter Try.func20, Try.ntmps20
  go_wp2_with (go_at_call 17; refine halted ?_)
  refine go_on ?_
  refine (E1.out _ hbA).mono ?_
  rintro e w1 ⟨A3, c3, rfl, hown3, hb3⟩
  have hb1 := hbA.trans (hb3.mono hbA.size)
  have hq0 := hb3.cell (p := ⟨w.heap.size + 1, 0, none⟩) (by simp)
  have hq1 := hb3.cell (p := ⟨w.heap.size + 1, 1, none⟩) (by simp)
  have hq2 := hb3.cell (p := ⟨w.heap.size + 1, 2, none⟩) (by simp)
  have hq3 := hb3.cell (p := ⟨w.heap.size + 1, 3, none⟩) (by simp)
  have hq4 := hb3.cell (p := ⟨w.heap.size + 1, 4, none⟩) (by simp)
  have hq5 := hb3.cell (p := ⟨w.heap.size + 1, 5, none⟩) (by simp)
  simp at hq0 hq1 hq2 hq3 hq4 hq5
  dsimp only at *
  clear hb3 hbA
  go_wp2_with (go_at_call 17; refine halted ?_)
  refine go_on ?_
  refine (E2.out _ hb1).mono ?_
  rintro e w2 ⟨A4, c4, rfl, hown4, hb4⟩
  have hb2 := hb1.trans (hb4.mono hb1.size)
  dsimp only at *
  have k1 := run_str (P := Try.prog) (dst := 9) (c := c3) Try.underlying37 Try.underlying5 Try.underlying9 (hown3.bytes.below hb4) rfl
  have k2 := run_str (P := Try.prog) (dst := 9) (c := c4) Try.underlying37 Try.underlying5 Try.underlying9 hown4.bytes rfl
  clear hown3 hown4 hb4 hq0 hq1 hq2 hq3 hq4 hq5 E1 E2
  cases hx : (x1 == x2) with
  | false =>
    go_wp2
    go_ret
    exact ⟨⟨false, rfl, fun h => by injection h with _ h2; subst h2; simp at hx⟩, hb2⟩
  | true =>
    go_wp2
    go_ret
    exact ⟨⟨_, rfl, fun h => by injection h with h1 _; subst h1; simp⟩, hb2⟩

set_option maxRecDepth 100000 in
set_option maxHeartbeats 4000000 in
theorem ratesBack_any (s : Sch) (A : Option Addr) (c : Nat) (w : World) (hr : Row w w.heap.size A (brCells s.brs)) (hl : s.brs.length ≤ 9223372036854775807) :
    Calls Try.prog 8 #[schV s A c] w fun e w' => e = .returned (.bool true) ∧ Below w.heap.size w w' := by
  have E1 := hide fun W (hb : Below w.heap.size w W) => encode_any s A c W ((hr.below hb).more hb.size) hl
  have E2 := hide fun W (hb : Below w.heap.size w W) => right_any s A c W ((hr.below hb).more hb.size) hl
  have E3 := hide fun (x : Sch) (A3 : Option Addr) (c3 : Nat) W (hb : Below w.heap.size w W) (h3 : Row W W.heap.size A3 (brCells x.brs)) (h4 : x.brs.length ≤ 9223372036854775807) => same15_any x s A3 A c3 c W h3 ((hr.below hb).more hb.size) h4 hl
  have hb0 : Below w.heap.size w (w.alloc (.cells #[.slice A s.brs.length c, .int .i64 s.ded, .int .i64 s.cred, .int .i64 s.lbp, .int .i64 s.lmost, .int .i64 s.lleast] 24)) := (Below.refl w.heap.size w).alloc (Nat.le_refl _) _
  clear hr
  unfold schV at *
  go_enter Try.func8, Try.ntmps8
  go_wp2_with (go_at_call 9; refine halted ?_)
  refine go_on ?_
  refine (awake_any _).mono ?_
  rintro e w1 ⟨rfl, hb1⟩
  have hq0 := hb1.cell (p := ⟨w.heap.size, 0, none⟩) (by simp)
  have hq1 := hb1.cell (p := ⟨w.heap.size, 1, none⟩) (by simp)
  have hq2 := hb1.cell (p := ⟨w.heap.size, 2, none⟩) (by simp)
  have hq3 := hb1.cell (p := ⟨w.heap.size, 3, none⟩) (by simp)
  have hq4 := hb1.cell (p := ⟨w.heap.size, 4, none⟩) (by simp)
  have hq5 := hb1.cell (p := ⟨w.heap.size, 5, none⟩) (by simp)
  simp at hq0 hq1 hq2 hq3 hq4 hq5
  have hs1 : w.heap.size < w1.heap.size := by have := hb1.size; simp at this; omega
  have hbw := hb0.trans (hb1.mono (by simp))
  by_cases h1000 : 1000 < s.brs.length
  · go_wp2
    go_ret
    exact ⟨rfl, hbw⟩
  clear hb0 hb1
  have hways : ∃ us er x f, Hid (encR s = (us, er)) ∧ Hid (decR us = (x, f)) ∧ us.length ≤ 1000 ∧ x.brs.length ≤ 1000 ∧ ((Hid (s.right = true) ∧ er = 0 ∧ f = 0 ∧ Hid (x = s)) ∨ (Hid (s.right = false) ∧ er = 1)) := by
    cases hrt : s.right with
    | true =>
      have hd := decR_enc hrt
      have hle := numsOf_len s
      have hnl := numsB_len (numsOf s)
      have ha := right_all hrt
      rw [encR_ok hrt] at hd
      exact ⟨_, _, s, 0, encR_ok hrt, hd, by omega, by omega, .inl ⟨rfl, rfl, rfl, rfl⟩⟩
    | false => exact ⟨[], 1, schZ, 3, encR_no hrt, by show _ = _; unfold decR; rw [numsIn_nil]; rfl, by simp, by simp [schZ], .inr ⟨rfl, rfl⟩⟩
  obtain ⟨us, er, x, f, HE, HD, hus, hxl, hway⟩ := hways
  go_wp2_with (go_at_call 16; refine halted ?_)
  refine go_on ?_
  refine (E1.out _ hbw).mono ?_
  rw [HE.out]
  rintro e w2 ⟨A2, c2, rfl, hown2, hb2⟩
  dsimp only at hown2
  dsimp only
  have hbw2 := hbw.trans (hb2.mono hbw.size)
  have p0 := (hb2.cell (p := ⟨w.heap.size, 0, none⟩) hs1).trans hq0
  have p1 := (hb2.cell (p := ⟨w.heap.size, 1, none⟩) hs1).trans hq1
  have p2 := (hb2.cell (p := ⟨w.heap.size, 2, none⟩) hs1).trans hq2
  have p3 := (hb2.cell (p := ⟨w.heap.size, 3, none⟩) hs1).trans hq3
  have p4 := (hb2.cell (p := ⟨w.heap.size, 4, none⟩) hs1).trans hq4
  have p5 := (hb2.cell (p := ⟨w.heap.size, 5, none⟩) hs1).trans hq5
  have hs2 : w.heap.size < w2.heap.size := Nat.lt_of_lt_of_le hs1 hb2.size
  clear hq0 hq1 hq2 hq3 hq4 hq5 hb2 E1
  go_wp2_with (go_at_call 11; refine halted ?_)
  refine go_on ?_
  refine (E2.out _ hbw2).mono ?_
  rintro e w3 ⟨rfl, hb3⟩
  have hbw3 := hbw2.trans (hb3.mono hbw2.size)
  have o3 := hown2.below hb3 (Nat.le_refl _)
  have q0 := (hb3.cell (p := ⟨w.heap.size, 0, none⟩) hs2).trans p0
  have q1 := (hb3.cell (p := ⟨w.heap.size, 1, none⟩) hs2).trans p1
  have q2 := (hb3.cell (p := ⟨w.heap.size, 2, none⟩) hs2).trans p2
  have q3 := (hb3.cell (p := ⟨w.heap.size, 3, none⟩) hs2).trans p3
  have q4 := (hb3.cell (p := ⟨w.heap.size, 4, none⟩) hs2).trans p4
  have q5 := (hb3.cell (p := ⟨w.heap.size, 5, none⟩) hs2).trans p5
  have hs3 : w.heap.size < w3.heap.size := Nat.lt_of_lt_of_le hs2 hb3.size
  have hcap : us.length ≤ c2 := own_cap8 o3
  have HDE := hide (decode_any A2 c2 _ us w3 rfl o3.bytes (by omega) hcap)
  clear p0 p1 p2 p3 p4 p5 hb3 E2 hown2 o3 hcap
  go_wp2_with (go_at_call 18; refine halted ?_)
  refine go_on ?_
  refine HDE.out.mono ?_
  rw [HD.out]
  rintro e w4 ⟨A4, c4, rfl, hr4, hb4⟩
  dsimp only at hr4
  dsimp only
  unfold schV at *
  have hbw4 := hbw3.trans (hb4.mono hbw3.size)
  have p0 := (hb4.cell (p := ⟨w.heap.size, 0, none⟩) hs3).trans q0
  have p1 := (hb4.cell (p := ⟨w.heap.size, 1, none⟩) hs3).trans q1
  have p2 := (hb4.cell (p := ⟨w.heap.size, 2, none⟩) hs3).trans q2
  have p3 := (hb4.cell (p := ⟨w.heap.size, 3, none⟩) hs3).trans q3
  have p4 := (hb4.cell (p := ⟨w.heap.size, 4, none⟩) hs3).trans q4
  have p5 := (hb4.cell (p := ⟨w.heap.size, 5, none⟩) hs3).trans q5
  have hs4 : w.heap.size < w4.heap.size := Nat.lt_of_lt_of_le hs3 hb4.size
  have hbw5 := hbw4.alloc hbw4.size (.cells #[.slice A4 x.brs.length c4, .int .i64 x.ded, .int .i64 x.cred, .int .i64 x.lbp, .int .i64 x.lmost, .int .i64 x.lleast] 24)
  have hr5 := (hr4.alloc (Nat.le_refl _) (.cells #[.slice A4 x.brs.length c4, .int .i64 x.ded, .int .i64 x.cred, .int .i64 x.lbp, .int .i64 x.lmost, .int .i64 x.lleast] 24)).more (show w4.heap.size ≤ (w4.alloc (.cells #[.slice A4 x.brs.length c4, .int .i64 x.ded, .int .i64 x.cred, .int .i64 x.lbp, .int .i64 x.lmost, .int .i64 x.lleast] 24)).heap.size by simp)
  have HSM := hide (E3.out x A4 c4 _ hbw5 hr5 (by omega))
  clear q0 q1 q2 q3 q4 q5 hb4 hr4 hr5 E3 HDE
  go_wp2_with (go_at_call 20; refine halted ?_)
  refine go_on ?_
  refine HSM.out.mono ?_
  rintro e w6 ⟨⟨b, rfl, hbt⟩, hb6⟩
  have hbw6 := hbw5.trans (hb6.mono hbw5.size)
  have HBT := hide hbt
  clear hbt hb6 HSM p0 p1 p2 p3 p4 p5 hbw5 hbw4 hbw3 hbw2
  rcases hway with ⟨h1, rfl, rfl, h2⟩ | ⟨h1, rfl⟩
  · have hb : b = true := HBT.out (by rw [h2.out])
    subst hb
    rw [h1.out]
    go_wp2
    go_ret
    exact ⟨rfl, hbw6⟩
  · rw [h1.out]
    go_wp2
    go_ret
    exact ⟨rfl, hbw6⟩
end Go.Proofs.Ytedaajilmeplnaa
