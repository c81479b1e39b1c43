/-
  chart.Encode: what it does on a right posting.
-/
import Derived.Test.YtibanikfalfmcaaEncC1
namespace Go.Proofs.Ytibanikfalfmcaa
open Go.RowKit
set_option linter.unusedVariables false

set_option maxRecDepth 100000 in
set_option maxHeartbeats 4000000 in
theorem encodeC_any (day : Int) (tx : ByteArray) (A : Option Addr) (n c : Nat) (ls : List (Int × Int)) (w : World) (hn : ls.length = n) (hr : Row w w.heap.size A (legCells ls)) (hl : n ≤ 1000000) (hwf : ∀ x ∈ ls, (Lit.int .i64 x.1).wf = true) (htx : tx.size ≤ maxLen)
    (hR : rightE day tx.size ls = true) :
    Calls Try.prog 16 #[.agg #[.int .i64 day, .string tx, .slice A n c]] w fun e w' => ∃ A' c', e = .returned (.tuple #[.slice A' (headB day tx.data.toList ls.length ++ legsB ls).length c', .int .i64 0]) ∧ Bytes w' w'.heap.size A' (headB day tx.data.toList ls.length ++ legsB ls) ∧ (headB day tx.data.toList ls.length ++ legsB ls).length ≤ c' ∧ Below w.heap.size w w' := by
  subst hn
  obtain ⟨hdl, htl, hll, hday0, hday1⟩ : (2 ≤ ls.length) ∧ tx.size ≤ 200 ∧ ls.length ≤ 20 ∧ 0 ≤ day ∧ day ≤ 3652058 := by
    unfold rightE dayOk at hR
    simp only [Bool.and_eq_true, decide_eq_true_eq] at hR
    omega
  obtain ⟨w1, hw1⟩ : ∃ w1, w1 = w.alloc (.cells #[.int .i64 day, .string tx, .slice A ls.length c] 25) := ⟨_, rfl⟩
  have hb1 : Below w.heap.size w w1 := by rw [hw1]; exact below_new w _
  have hz1 : w1.heap.size = w.heap.size + 1 := by rw [hw1]; simp
  have hx1 : w1.heap[w.heap.size]? = some (.cells #[.int .i64 day, .string tx, .slice A ls.length c] 25 (0, 0)) := by rw [hw1]; exact heap_alloc_new w _
  have HRA := hide (right_any day tx A w.heap.size ls.length c ls w1 rfl (hr.belowLe hb1 (Nat.le_refl _)) hb1.size (by omega) hwf htx)
  have HBX := hide (show ∀ W, Below w1.heap.size w1 W → W.cell? ⟨w.heap.size, 0, none⟩ = some (.int .i64 day) ∧ W.cell? ⟨w.heap.size, 1, none⟩ = some (.string tx) ∧ W.cell? ⟨w.heap.size, 2, none⟩ = some (.slice A ls.length c) from fun W hW => by
    have h := (hW.block w.heap.size (by omega)).trans hx1
    exact ⟨Joins.cell_of_block h 0, Joins.cell_of_block h 1, Joins.cell_of_block h 2⟩)
  have HB1 := hide hb1
  have HR := hide hr
  have HLA := hide (legsOk_amt (right_legs hR))
  have HLE := hide (legsOk_rng (right_legs hR))
  have HRT := hide hR
  have HCV := hide (fun (W : World) => Lib.run_convert_string_bytes (P := Try.prog) W 9 40 5 tx Try.underlying9 Try.underlying40 Try.underlying5)
  have HN1 := hide (fun (W : World) => number_any day.toNat W (by omega))
  have HN2 := hide (fun (W : World) => number_any ls.length W (by omega))
  have e1 : ((day.toNat : Nat) : Int) = day := by omega
  rw [e1] at HN1
  have hwd : IntKind.u64.wrap day = day := by rw [wrap_u64]; omega
  have hwn : IntKind.u64.wrap (ls.length : Int) = (ls.length : Int) := by rw [wrap_u64]; omega
  clear hb1 hx1 hr hwf hR hz1 e1
  go_enter Try.func16, Try.ntmps16
  go_wp2_with (go_at_call 34; refine halted ?_)
  refine go_on ?_
  rw [← hw1]
  refine HRA.out.mono ?_
  rintro e w2 ⟨rfl, hb2⟩
  rw [HRT.out]
  have hbo2 : Below w1.heap.size w1 w2 := ⟨hb2.os, hb2.tape, hb2.output, hb2.size, hb2.block⟩
  obtain ⟨k0, k1, k2⟩ := HBX.out w2 hbo2
  have hconv := HCV.out
  have HB2 := hide (HB1.out.trans (hb2.mono HB1.out.size))
  have HE := hide (show Env w.heap.size day tx A ls.length c w2 from ⟨fun W hW => HBX.out W (hbo2.trans (hW.mono hb2.size)), hday0, hday1, htl, hll⟩)
  clear HRA hb2 hw1 hbo2 HBX HB1 HN1 HN2
  go_wp2
  obtain ⟨d0, d1, d2⟩ := HE.out.box (Lib.bytesWorld w2.drew 5 tx) ((Below.refl w2.heap.size w2).drew.trans (below_bytesW w2.drew (Nat.le_refl _) tx))
  refine Code.wp_mono (Q := fun e a W => match e with | .normal => ∃ (v13 v16 v17 v22 v23 : Value) (A4 : Option Addr) (c4 : Nat), a = { tmps := #[.agg #[.int .i64 day, .string tx, .slice A ls.length c], .pointer (some ⟨w.heap.size, 0, none⟩), .slice none 0 0, .int .i64 0, .slice A4 (headB day tx.data.toList ls.length).length c4, undef, undef, .agg #[.int .i64 day, .string tx, .slice A ls.length c], .bool true, .bool false, .pointer (some ⟨w.heap.size, 0, none⟩), .int .i64 day, .int .u64 day, v13, .pointer (some ⟨w.heap.size, 1, none⟩), .string tx, v16, v17, .pointer (some ⟨w.heap.size, 2, none⟩), .slice A ls.length c, .int .i64 (ls.length : Int), .int .u64 (ls.length : Int), v22, v23, .slice A4 (headB day tx.data.toList ls.length).length c4, undef, undef, undef, undef, undef, undef, undef, undef, undef, undef, undef, undef, undef, undef, undef, undef, undef, undef, undef], defers := [] } ∧ Hid (Bytes W W.heap.size A4 (headB day tx.data.toList ls.length) ∧ (headB day tx.data.toList ls.length).length ≤ c4) ∧ Hid (Below w2.heap.size w2 W) | _ => False) (fun e a w8 hR => ?_) ?_
  rotate_left
  · go_region_law
      (first
        | (go_simp; go_at_call 36; (with_reducible refine (num1a HE.out).mono ?_); rintro e w3 ⟨A1, c1, rfl, X1, X2, ⟨m0, m1, m2⟩, ⟨p0, p1, p2⟩⟩; dsimp only)
        | (go_simp; go_at_call 36; (with_reducible refine (num1b HE.out).mono ?_); rintro e w3 ⟨A1, c1, rfl, X1, X2, ⟨m0, m1, m2⟩, X3⟩; dsimp only)
        | (go_simp; go_at_call 37; (with_reducible refine (text1 HE.out w3 A1 _ X1 X2).mono ?_); rintro e w5 ⟨A2, c2, rfl, X4, X5, X6, ⟨n0, n1, n2⟩⟩; dsimp only)
        | (go_simp; go_at_call 37; (with_reducible refine (text2 HE.out w3 A1 _ X1 X2 X3).mono ?_); rintro e w5 ⟨A2, c2, rfl, X4, X5, X6, ⟨n0, n1, n2⟩⟩; dsimp only)
        | (go_simp; go_at_call 36; (with_reducible refine (num2 HE.out w5 A1 A2 X5 X4 X6).mono ?_); rintro e w7 ⟨A3, c3, rfl, X7, X8⟩; dsimp only)
        | (go_simp; go_at_call 35; (with_reducible refine (cat1 HE.out w7 A1 A2 A3 c1 c2 c3 X7 X8).mono ?_); rintro e w8 ⟨A4, c4, rfl, X9, X10⟩; dsimp only))
    all_goals exact ⟨_, _, _, _, _, A4, c4, rfl, X9, X10⟩
  · obtain ⟨rfl, v13, v16, v17, v22, v23, A4, c4, rfl, X9, X10⟩ : e = .normal ∧ ∃ (v13 v16 v17 v22 v23 : Value) (A4 : Option Addr) (c4 : Nat), a = { tmps := #[.agg #[.int .i64 day, .string tx, .slice A ls.length c], .pointer (some ⟨w.heap.size, 0, none⟩), .slice none 0 0, .int .i64 0, .slice A4 (headB day tx.data.toList ls.length).length c4, undef, undef, .agg #[.int .i64 day, .string tx, .slice A ls.length c], .bool true, .bool false, .pointer (some ⟨w.heap.size, 0, none⟩), .int .i64 day, .int .u64 day, v13, .pointer (some ⟨w.heap.size, 1, none⟩), .string tx, v16, v17, .pointer (some ⟨w.heap.size, 2, none⟩), .slice A ls.length c, .int .i64 (ls.length : Int), .int .u64 (ls.length : Int), v22, v23, .slice A4 (headB day tx.data.toList ls.length).length c4, undef, undef, undef, undef, undef, undef, undef, undef, undef, undef, undef, undef, undef, undef, undef, undef, undef, undef, undef], defers := [] } ∧ Hid (Bytes w8 w8.heap.size A4 (headB day tx.data.toList ls.length) ∧ (headB day tx.data.toList ls.length).length ≤ c4) ∧ Hid (Below w2.heap.size w2 w8) := by
      cases e with
      | normal => exact ⟨rfl, hR⟩
      | _ => exact hR.elim
    have S9 := HE.out.box w8 X10.out
    obtain ⟨s0, s1, s2⟩ := S9
    obtain ⟨hd, hhd⟩ : ∃ hd, hd = headB day tx.data.toList ls.length := ⟨_, rfl⟩
    rw [← hhd] at X9 ⊢
    have HHD := hide hhd
    clear hhd k0 k1 k2 d0 d1 d2
    go_wp2
    go_loopw [4, 28] (fun v i wr => EnRel hd ls w2 v i wr) (fun _ i _ => ls.length - (intOf i).toNat)
    case atStart => exact ⟨0, hd, A4, c4, Nat.zero_le _, rfl, rfl, by show _ = _; simp [legsB], X9, X10.out⟩
    case round =>
      obtain ⟨k, us, A5, c5, hk, rfl, rfl, HU, HY, hb⟩ := hrel
      have hbw : Below w.heap.size w wr := HB2.out.trans (hb.mono HB2.out.size)
      have HBW := hide hbw
      have hul : us.length ≤ 10000 := by
        have h1 := numB_len day.toNat
        have h2 := numB_len ls.length
        have h3 := numB_len tx.data.toList.length
        have h4 : tx.data.toList.length = tx.size := by simp
        have h5 := legsB_len (ls.take k)
        rw [List.length_take] at h5
        rw [HU.out, HHD.out]
        unfold headB textB
        simp only [List.length_append]
        omega
      have HUL := hide hul
      clear s0 s1 s2 hul
      by_cases hlt : k < ls.length
      · obtain ⟨ad, a, m, rfl, hadb, hx, ha, hm⟩ := (HR.out.belowLe hbw (Nat.le_refl _)).leg hlt
        have hma := (amt_iff _).1 (HLA.out _ (List.mem_of_getElem? hx.out))
        have hra := HLE.out _ (List.mem_of_getElem? hx.out)
        dsimp only at hma hra
        obtain ⟨wl, hwl⟩ : ∃ wl, wl = wr.alloc (.cells #[.int .i64 a, .int .i64 m] 51) := ⟨_, rfl⟩
        have hbl : Below wr.heap.size wr wl := by rw [hwl]; exact below_new _ _
        have hbxl : wl.heap[wr.heap.size]? = some (.cells #[.int .i64 a, .int .i64 m] 51 (0, 0)) := by rw [hwl]; exact heap_alloc_new _ _
        have HEL := hide (show EnvL wr.heap.size a m A5 us wl from ⟨fun W hW => by
          have h := (hW.block _ (Array.getElem?_eq_some_iff.1 hbxl).1).trans hbxl
          exact ⟨Joins.cell_of_block h 0, Joins.cell_of_block h 1⟩, (HY.out.1.below hbl).more hbl.size, HUL.out, hra.1, hra.2, hma.1, hma.2⟩)
        have hwa : IntKind.u64.wrap a = a := by rw [wrap_u64]; omega
        have HN := hide (legsB_next hx.out)
        have HBL := hide hbl
        clear hbl hbxl hma
        go_wp2
        rw [← hwl]
        clear hwl
        have S0 := HEL.out.box wl (Below.refl wl.heap.size wl)
        have S1 := HEL.out.box wl.drew (Below.refl wl.heap.size wl).drew
        go_region_held3 (fun W => W.cell? ⟨wr.heap.size, 0, none⟩ = some (.int .i64 a) ∧ W.cell? ⟨wr.heap.size, 1, none⟩ = some (.int .i64 m))
          (with_reducible assumption)
          (first
            | (go_at_call 36; (with_reducible refine (num3 HEL.out).mono ?_); rintro e w4 ⟨A1, c1, rfl, Z1, Z2, S3⟩)
            | (go_at_call 38; (with_reducible refine (int3 HEL.out w4 A1 Z1 Z2).mono ?_); rintro e w5 ⟨A2, c2, rfl, Z3, Z4⟩; have S4 := HEL.out.box w5 Z4.out; have S5 := HEL.out.box _ (Z4.out.trans (below_new' w5 Z4.out.size (.cells #[.slice A5 us.length c5, .slice A1 (numB a.toNat).length c1, .slice A2 (intB m).length c2] 40))))
            | (go_at_call 35; (with_reducible refine (cat3 HEL.out w5 A1 A2 c5 c1 c2 Z3 Z4).mono ?_); rintro e w8 ⟨A6, c6, rfl, Z5, Z6⟩; have S6 := HEL.out.box w8 Z6.out))
        all_goals
          have hrel2 : EnRel hd ls w2 (.slice A6 (us ++ numB a.toNat ++ intB m).length c6) (.int .i64 ((k : Int) + 1)) w8 := ⟨k + 1, _, A6, c6, hlt, by simp, rfl, by
            show _ = _
            rw [HN.out, HU.out]
            simp, Z5, hb.trans ((HBL.out.trans (Z6.out.mono HBL.out.size)).mono hb.size)⟩
          rw [show (us ++ numB a.toNat ++ intB m).length = us.length + ((numB a.toNat).length + (intB m).length) from by rw [List.length_append, List.length_append, Nat.add_assoc]] at hrel2
          have HR2 := hide hrel2
          clear hrel2 S0 S1 S3 S4 S5 S6 Z5
          go_wp2
          case roundEnd => exact ⟨HR2.out, by simp [intOf]; omega⟩
      · have hkE : k = ls.length := by omega
        subst hkE
        have HF : Hid (us = headB day tx.data.toList ls.length ++ legsB ls) := by
          show _ = _
          rw [HU.out, HHD.out, List.take_of_length_le (Nat.le_refl _)]
        go_wp2
        refine bodyPost_ret (results_tmp2 rfl _ _ _) rfl ?_
        exact ⟨A5, c5, by rw [← HF.out]; rfl, by rw [← HF.out]; exact HY.out.1, by rw [← HF.out]; exact HY.out.2, HBW.out⟩
end Go.Proofs.Ytibanikfalfmcaa
