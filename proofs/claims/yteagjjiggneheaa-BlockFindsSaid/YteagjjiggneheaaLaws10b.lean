/-
  BlockParses, BlockBack, BlockFinds, walked.
-/
import Derived.Test.YteagjjiggneheaaBuiltLaw
import Derived.Test.YteagjjiggneheaaLaws10
namespace Go.Proofs.Yteagjjiggneheaa
open Go.RowKit
set_option linter.unusedVariables false

theorem BoxP.below {q : Nat} {v0 v1 : Value} {W W' : World} {B : Nat} (h : BoxP q v0 v1 W) (hb : Below B W W') (hq : q < B) : BoxP q v0 v1 W' := (hb.block q hq).trans h

set_option maxRecDepth 100000 in
set_option maxHeartbeats 4000000 in
theorem blockParses_any (A AK : Option Addr) (c cK : Nat) (bs key : List UInt8) (w : World) (hr : Bytes w w.heap.size A bs) (hc : bs.length ≤ c) (hl : bs.length ≤ 9223372036854775807) (hk : Bytes w w.heap.size AK key) (hlk : key.length ≤ 9223372036854775807) :
    Calls Try.prog 5 #[.slice A bs.length c, .slice AK key.length cK] w fun e w' => e = .returned (.bool true) ∧ Below w.heap.size w w' := by
  go_enter Try.func5, Try.ntmps5
  go_wp2_with (go_at_call 8; refine halted ?_)
  refine go_on ?_
  refine (awake_any _).mono ?_
  rintro e w1 ⟨rfl, hb1⟩
  by_cases k1 : 20000 < bs.length
  · clear hr hk
    go_wp2
    go_ret
    exact ⟨rfl, hb1⟩
  by_cases k2 : 10000 < key.length
  · clear hr hk
    go_wp2
    go_ret
    exact ⟨rfl, hb1⟩
  have B1 := hide fun W (hb : Below w.heap.size w W) => parse_any A c bs.length bs W ((hr.below hb).more hb.size) rfl hc (by omega)
  have B2 := hide fun W (hb : Below w.heap.size w W) => rparse_any A c bs.length bs W ((hr.below hb).more hb.size) rfl hc (by omega)
  have B3 := hide fun W (hb : Below w.heap.size w W) => seek_any A AK c cK bs.length bs key W ((hr.below hb).more hb.size) rfl hc (by omega) ((hk.below hb).more hb.size)
  have B4 := hide fun W (hb : Below w.heap.size w W) => rseek_any A AK c cK bs.length bs key W ((hr.below hb).more hb.size) rfl hc (by omega) ((hk.below hb).more hb.size)
  rw [parse_same (by omega)] at B1 B3
  have hLl : (parsedR (parseQ bs)).1.length ≤ 20000 := by
    rw [← parse_same (by omega)]
    cases hp : parseP bs with
    | none => simp [parsedR]
    | some l =>
      have := parseP_len hp
      simp [parsedR]
      omega
  generalize parsedR (parseQ bs) = R at *
  generalize seekV (parseQ bs) key = S at *
  obtain ⟨L, er⟩ := R
  obtain ⟨o, es⟩ := S
  clear hr hk
  go_wp2_with (go_at_call 12; refine halted ?_)
  refine go_on ?_
  refine (B1.out _ hb1).mono ?_
  rintro e w2 ⟨A2, c2, l2, rfl, hm2, hrow2, hcap2, hb2⟩
  dsimp only at *
  have hB2 := hb1.trans (hb2.mono hb1.size)
  go_wp2_with (go_at_call 13; refine halted ?_)
  refine go_on ?_
  refine (B2.out _ hB2).mono ?_
  rintro e w3 ⟨A3, c3, l3, rfl, hm3, hrow3, hcap3, hb3⟩
  dsimp only at *
  have hB3 := hB2.trans (hb3.mono hB2.size)
  have hrow2 := hrow2.below hb3
  go_wp2_with (go_at_call 14; refine halted ?_)
  refine go_on ?_
  refine (B3.out _ hB3).mono ?_
  rintro e w4 ⟨p, rfl, hp, hpo, hb4⟩
  dsimp only at *
  have hB4 := hB3.trans (hb4.mono hB3.size)
  have hrow2 := hrow2.below hb4
  have hrow3 := hrow3.below hb4
  have hal4 : Below w4.heap.size w4 (w4.alloc (.cells #[.slice p.A p.k.length p.c, .slice p.A2 p.v.length p.c2] 34)) := (Below.refl _ _).alloc (Nat.le_refl _) _
  have hbp : BoxP w4.heap.size (.slice p.A p.k.length p.c) (.slice p.A2 p.v.length p.c2) (w4.alloc (.cells #[.slice p.A p.k.length p.c, .slice p.A2 p.v.length p.c2] 34)) := heap_alloc_new w4 _
  have hB5 := hB4.trans (hal4.mono hB4.size)
  have hrow2 := hrow2.below hal4
  have hrow3 := hrow3.below hal4
  have hpo := hpo.below hal4
  have hz5 : w4.heap.size < (w4.alloc (.cells #[.slice p.A p.k.length p.c, .slice p.A2 p.v.length p.c2] 34)).heap.size := by simp
  clear hb2 hb3 hb4 hal4
  go_wp2_with (go_at_call 15; refine halted ?_)
  refine go_on ?_
  generalize w4.alloc (.cells #[.slice p.A p.k.length p.c, .slice p.A2 p.v.length p.c2] 34) = w5 at *
  refine (B4.out _ hB5).mono ?_
  rintro e w6 ⟨q, rfl, hq, hqo, hb6⟩
  dsimp only at *
  have hB6 := hB5.trans (hb6.mono hB5.size)
  have hal6 : Below w6.heap.size w6 (w6.alloc (.cells #[.slice q.A q.k.length q.c, .slice q.A2 q.v.length q.c2] 34)) := (Below.refl _ _).alloc (Nat.le_refl _) _
  have hbq : BoxP w6.heap.size (.slice q.A q.k.length q.c) (.slice q.A2 q.v.length q.c2) (w6.alloc (.cells #[.slice q.A q.k.length q.c, .slice q.A2 q.v.length q.c2] 34)) := heap_alloc_new w6 _
  have hB7 := hB6.trans (hal6.mono hB6.size)
  have hrow2 := (hrow2.below hb6).below hal6
  have hrow3 := (hrow3.below hb6).below hal6
  have hpo := (hpo.below hb6).below hal6
  have hqo := hqo.below hal6
  have hbp := (hbp.below hb6 hz5).below hal6 (Nat.lt_of_lt_of_le hz5 hb6.size)
  have hz7 : w6.heap.size < (w6.alloc (.cells #[.slice q.A q.k.length q.c, .slice q.A2 q.v.length q.c2] 34)).heap.size := by simp
  have hz6 : w4.heap.size < w6.heap.size := Nat.lt_of_lt_of_le hz5 hb6.size
  clear hb6 hal6 hz5
  go_wp2_with (go_at_call 16; refine halted ?_)
  refine go_on ?_
  generalize w6.alloc (.cells #[.slice q.A q.k.length q.c, .slice q.A2 q.v.length q.c2] 34) = w7 at *
  refine (rsameAll_any A2 A3 c2 c3 l2.length l3.length l2 l3 w7 hrow2 hrow3 rfl rfl (by rw [← hm2, List.length_map] at hLl; omega) (by rw [← hm3, List.length_map] at hLl; omega)).mono ?_
  rintro e w8 ⟨rfl, hb8⟩
  rw [decide_eq_true (show l2.map Pr.pair = l3.map Pr.pair by rw [hm2, hm3])]
  have hB8 := hB7.trans (hb8.mono hB7.size)
  have hbp8 := hbp.below hb8 (Nat.lt_trans hz6 hz7)
  have hbq8 := hbq.below hb8 hz7
  have hz8 := hb8.size
  have hpo8 := hpo.below hb8
  have hqo8 := hqo.below hb8
  have HSM := hide (rsame_any p q w8 hpo8 hqo8)
  rw [decide_eq_true (show p.pair = q.pair by rw [hp, hq])] at HSM
  have d0 := hbp8.cell0
  have d1 := hbp8.cell1
  have d2 := hbq8.cell0
  have d3 := hbq8.cell1
  have e1 : (er == er) = true := by simp
  have e2 : (es == es) = true := by simp
  have e3 : (o.isSome == o.isSome) = true := by simp
  clear hb8 hrow2 hrow3 hpo hqo hbp hbq hm2 hm3 hp hq B1 B2 B3 B4 hbp8 hbq8 hpo8 hqo8
  go_wp2_with (go_at_call 17; refine halted ?_)
  refine go_on ?_
  refine HSM.out.mono ?_
  rintro e w9 ⟨rfl, hb9⟩
  have hB9 := hB8.trans (hb9.mono hB8.size)
  clear hb9 HSM d0 d1 d2 d3
  go_wp2
  go_ret
  exact ⟨by simp, hB9⟩
end Go.Proofs.Yteagjjiggneheaa
