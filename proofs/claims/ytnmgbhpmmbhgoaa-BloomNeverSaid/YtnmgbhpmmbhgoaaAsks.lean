/-
  BloomAsks, walked.
-/
import Derived.Test.YtnmgbhpmmbhgoaaMay
import Derived.Test.YtnmgbhpmmbhgoaaStr
namespace Go.Proofs.Ytnmgbhpmmbhgoaa
open Go.RowKit Go.Shelf Go.BigFrame
set_option linter.unusedVariables false
attribute [local go_sem] Oper.semAt_some

set_option maxRecDepth 100000 in
set_option maxHeartbeats 4000000 in
theorem build10 (w : World) : Calls Try.prog 8 #[.slice none 0 0, .int .i64 10] w fun e w' => NewF w w' e ([6, 0, 0, 0, 0, 0, 0, 0, 0], 0) := by
  have hmk := run_make_row' (P := Try.prog) 23 5 (.int .u8 0) 1 Try.underlying23 info_u8 rfl .i64 .i64 9 (by omega) (by omega)
  have e9 : (1 + max 0 8 : Int) = 9 := by decide
  rw [show ((9 : Nat) : Int) = 9 from rfl] at hmk
  have em : (min (max 6 1) 12 : Int) = 6 := by decide
  have ecs : (madeCells #[.int .u8 0] 9).setIfInBounds 0 (.int .u8 6) = (([6, 0, 0, 0, 0, 0, 0, 0, 0] : List UInt8).map byv).toArray := by
    apply Array.ext'
    rw [Array.toList_setIfInBounds, toList_madeCells_one]
    rfl
  have hown := OwnB.lit w (base := w.heap.size) 5 [6, 0, 0, 0, 0, 0, 0, 0, 0] (Nat.le_refl _) (by unfold maxLen; simp)
  rw [← ecs] at hown
  have hb := (Below.refl w.heap.size w).alloc (Nat.le_refl _) (.cells ((madeCells #[.int .u8 0] 9).setIfInBounds 0 (.int .u8 6)) 5)
  have hown0 := own_made w (base := w.heap.size) (n := 9) 5 (Nat.le_refl _) (by unfold maxLen; omega)
  have hc0 := hown0.cellAt (j := 0) (b := 0) rfl
  have hf0 := hown0.frozenAt 0
  have HOWN := hide hown
  have HB := hide hb
  clear hown hb ecs hown0
  refine (callsIn_wide (n := 3)).1 ?_
  refine callsIn_of_wp_marks Try.func8 rfl trivial ?_ rfl
  simp only [Try.ntmps8, List.size_toArray, List.length_cons, List.length_nil, Nat.reduceAdd, Nat.reduceSub, Array.replicate_succ, Array.replicate_zero, List.push_toArray, List.append_toArray, List.nil_append, List.cons_append]
  gi_wp2
  refine wpIn_loop_rounds 1 ?_
  rw [roundsIn_succ]
  gi_wp2
  refine ⟨_, results_tmp2 rfl _ _ _, some ⟨w.heap.size, 0, none⟩, 9, rfl, HOWN.out, HB.out⟩

set_option maxRecDepth 100000 in
set_option maxHeartbeats 4000000 in
theorem awake_any (w : World) : Calls Try.prog 6 #[] w fun e w' => e = .returned (.bool true) ∧ Below w.heap.size w w' := by
  go_enter Try.func6, Try.ntmps6
  go_wp2_with (go_at_call 8; refine halted ?_)
  refine go_on ?_
  refine (build10 _).mono ?_
  rintro e w1 ⟨A, c, rfl, hown, hb⟩
  obtain ⟨g, rfl, hg1, hg2⟩ := hown.form (by simp)
  have hc := hown.cellAt (j := 0) (b := 6) rfl
  dsimp only
  go_wp2
  go_ret
  exact ⟨rfl, hb⟩

set_option maxRecDepth 100000 in
set_option maxHeartbeats 4000000 in
theorem bloomAsks_any (A1 A2 A3 : Option Addr) (c1 c2 c3 : Nat) (f key other : List UInt8) (w : World) (hr1 : Bytes w w.heap.size A1 f) (hr2 : Bytes w w.heap.size A2 key) (hr3 : Bytes w w.heap.size A3 other) (hc1 : f.length ≤ c1) (hc3 : other.length ≤ c3) (hl1 : f.length ≤ 9223372036854775807) (hl2 : key.length ≤ 9223372036854775807) (hl3 : other.length ≤ 9223372036854775807) :
    Calls Try.prog 4 #[.slice A1 f.length c1, .slice A2 key.length c2, .slice A3 other.length c3] w fun e w' => e = .returned (.bool true) ∧ Below w.heap.size w w' := by
  go_enter Try.func4, Try.ntmps4
  go_wp2_with (go_at_call 6; refine halted ?_)
  refine go_on ?_
  refine (awake_any _).mono ?_
  rintro e w1 ⟨rfl, hb1⟩
  by_cases k1 : 100000 < f.length
  · go_wp2
    go_ret
    exact ⟨rfl, hb1⟩
  by_cases k2 : 10000 < key.length
  · go_wp2
    go_ret
    exact ⟨rfl, hb1⟩
  by_cases k3 : 100000 < other.length
  · go_wp2
    go_ret
    exact ⟨rfl, hb1⟩
  have E1 := hide fun W (hb : Below w.heap.size w W) => both_any A1 A3 c1 c3 f other W ((hr1.below hb).more hb.size) ((hr3.below hb).more hb.size) (by omega) (by omega) hc1 hc3
  have E2 := hide fun W (hb : Below w.heap.size w W) => rboth_any A1 A3 c1 c3 f other W ((hr1.below hb).more hb.size) ((hr3.below hb).more hb.size) (by omega) (by omega) hc1 hc3
  have E3 := hide fun W (hb : Below w.heap.size w W) => may_any A1 A2 c1 c2 f key W ((hr1.below hb).more hb.size) ((hr2.below hb).more hb.size) (by omega) (by omega)
  have E4 := hide fun W (hb : Below w.heap.size w W) => rmay_any A1 A2 c1 c2 f key W ((hr1.below hb).more hb.size) ((hr2.below hb).more hb.size) (by omega) (by omega)
  have E5 := hide fun W (hb : Below w.heap.size w W) => count_any A1 c1 f W ((hr1.below hb).more hb.size) (by omega) hc1
  have E6 := hide fun W (hb : Below w.heap.size w W) => rcount_any A1 c1 f W ((hr1.below hb).more hb.size) (by omega) hc1
  generalize bothR f other = r at *
  generalize mayF f key = m at *
  generalize countF f = n at *
  obtain ⟨us, er⟩ := r
  clear hr1 hr2 hr3
  go_wp2_with (go_at_call 11; refine halted ?_)
  refine go_on ?_
  refine (E1.out _ hb1).mono ?_
  rintro e w2 ⟨B1, d1, rfl, o1, hb2⟩
  dsimp only at o1
  dsimp only
  have hbw2 := hb1.trans (hb2.mono hb1.size)
  clear hb2
  go_wp2_with (go_at_call 12; refine halted ?_)
  refine go_on ?_
  refine (E2.out _ hbw2).mono ?_
  rintro e w3 ⟨B2, d2, rfl, o2, hb3⟩
  dsimp only at o2
  dsimp only
  have hbw3 := hbw2.trans (hb3.mono hbw2.size)
  have p1 := (o1.bytes.below hb3).more hb3.size
  have p2 := o2.bytes
  clear hb3 o1 o2
  go_wp2_with (go_at_call 9; refine halted ?_)
  refine go_on ?_
  refine (E3.out _ hbw3).mono ?_
  rintro e w4 ⟨rfl, hb4⟩
  have hbw4 := hbw3.trans (hb4.mono hbw3.size)
  have p1 := (p1.below hb4).more hb4.size
  have p2 := (p2.below hb4).more hb4.size
  clear hb4
  go_wp2_with (go_at_call 13; refine halted ?_)
  refine go_on ?_
  refine (E4.out _ hbw4).mono ?_
  rintro e w5 ⟨rfl, hb5⟩
  have hbw5 := hbw4.trans (hb5.mono hbw4.size)
  have p1 := (p1.below hb5).more hb5.size
  have p2 := (p2.below hb5).more hb5.size
  have k1 := run_str (P := Try.prog) (dst := 9) (c := d1) Try.underlying23 Try.underlying5 Try.underlying9 p1 rfl
  have k2 := run_str (P := Try.prog) (dst := 9) (c := d2) Try.underlying23 Try.underlying5 Try.underlying9 p2 rfl
  have hmm : (m == m) = true := by simp
  clear hb5 p1 p2
  go_wp2_with (go_at_call 10; refine halted ?_)
  refine go_on ?_
  refine (E5.out _ hbw5).mono ?_
  rintro e w6 ⟨rfl, rfl⟩
  go_wp2_with (go_at_call 14; refine halted ?_)
  refine go_on ?_
  refine (E6.out _ hbw5).mono ?_
  rintro e w6 ⟨rfl, rfl⟩
  go_wp2
  go_ret
  exact ⟨by simp, hbw5⟩
end Go.Proofs.Ytnmgbhpmmbhgoaa
