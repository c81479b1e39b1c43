/-
  Filters: the reference's two in one: what it computes.
-/
import Derived.Test.YtnmgbhpmmbhgoaaBloomBoth
import Derived.Deep.OwnRows
namespace Go.Proofs.Ytnmgbhpmmbhgoaa
open Go.RowKit Go.BigFrame
set_option linter.unusedVariables false

theorem own_made (w : World) {base n : Nat} (e : TypeId) (hb : base ≤ w.heap.size) (hl : n ≤ maxLen) : OwnB (w.alloc (.cells (madeCells #[.int .u8 0] n) e)) base e (some ⟨w.heap.size, 0, none⟩) n (List.replicate n 0) := by
  have h := World.ownsRow_lit (base := base) (e := e) (size := 1) w (madeCells #[.int .u8 0] n) n hb hl (by rw [size_madeCells]; omega)
  rw [toList_madeCells_one] at h
  unfold OwnB
  rw [List.length_replicate, List.map_replicate]
  exact h

def curR (a b : List UInt8) (k : Nat) : List UInt8 := List.zipWith (fun x y => x ||| y) (a.take k) (b.take k) ++ List.replicate (a.length - k) 0
theorem curR_zero (a b : List UInt8) : curR a b 0 = List.replicate a.length 0 := by simp [curR]
theorem curR_len {a b : List UInt8} (h : a.length = b.length) {k : Nat} (hk : k ≤ a.length) : (curR a b k).length = a.length := by
  unfold curR; simp [List.length_zipWith]; omega
theorem curR_next {a b : List UInt8} (h : a.length = b.length) {k : Nat} {x y : UInt8} (ha : a[k]? = some x) (hb : b[k]? = some y) : curR a b (k + 1) = (curR a b k).set k (x ||| y) := by
  have hk : k < a.length := lt_of_some ha
  have hlen : (List.zipWith (fun x y => x ||| y) (a.take k) (b.take k)).length = k := by simp [List.length_zipWith]; omega
  unfold curR
  rw [take_next ha, take_next hb, List.zipWith_append (by simp; omega), show a.length - k = (a.length - (k + 1)) + 1 by omega, List.replicate_succ]
  rw [List.set_append_right _ _ (by omega), hlen]
  simp
theorem curR_all {a b : List UInt8} (h : a.length = b.length) {k : Nat} (hk : k = a.length) : curR a b k = orL a b := by
  subst hk
  unfold curR orL
  rw [List.take_of_length_le (Nat.le_refl _), List.take_of_length_le (by omega), Nat.sub_self]
  simp

set_option maxRecDepth 100000 in
set_option maxHeartbeats 4000000 in
theorem rboth_any (A1 A2 : Option Addr) (c1 c2 : Nat) (a b : List UInt8) (w : World) (hr1 : Bytes w w.heap.size A1 a) (hr2 : Bytes w w.heap.size A2 b) (hl1 : a.length ≤ 1000000000) (hl2 : b.length ≤ 1000000000) (hc1 : a.length ≤ c1) (hc2 : b.length ≤ c2) :
    Calls Try.prog 12 #[.slice A1 a.length c1, .slice A2 b.length c2] w fun e w' => NewF w w' e (bothR a b) := by
  have HA : Hid (Calls Try.prog 19 #[.slice A1 a.length c1] w fun e w' => e = .returned (.bool (isF a)) ∧ w = w') := risf_any w A1 c1 a hr1 (by omega)
  have HB : Hid (Calls Try.prog 19 #[.slice A2 b.length c2] w fun e w' => e = .returned (.bool (isF b)) ∧ w = w') := risf_any w A2 c2 b hr2 (by omega)
  obtain ⟨R, HR⟩ : ∃ R, Hid (R = bothR a b) := ⟨_, rfl⟩
  rw [← HR.out]
  have hways := both_ways a b
  generalize isF a = ia at *
  generalize isF b = ib at *
  rcases hways with ⟨rfl, HO⟩ | ⟨rfl, rfl, HO⟩ | ⟨rfl, rfl, h3, HO⟩ | ⟨rfl, rfl, h3, x, y, HX, HY, ⟨HXY, HO⟩ | ⟨h4, HO⟩⟩
  · have HN := hide (HR.out.trans (bothR_no HO.out))
    clear hr1 hr2
    go_enter Try.func12, Try.ntmps12
    go_wp2_with (go_at_call 19; refine halted ?_)
    refine go_on ?_
    refine HA.out.mono ?_
    rintro e w1 ⟨rfl, rfl⟩
    go_wp2_with (go_at_call 19; refine halted ?_)
    refine go_on ?_
    refine HB.out.mono ?_
    rintro e w1 ⟨rfl, rfl⟩
    go_wp2
    go_big_quiet (fail)
    go_wp2
    go_ret2
    exact newF_no (below_drewM (Below.refl _ _) _) HN.out
  · have HN := hide (HR.out.trans (bothR_no HO.out))
    clear hr1 hr2
    go_enter Try.func12, Try.ntmps12
    go_wp2_with (go_at_call 19; refine halted ?_)
    refine go_on ?_
    refine HA.out.mono ?_
    rintro e w1 ⟨rfl, rfl⟩
    go_wp2_with (go_at_call 19; refine halted ?_)
    refine go_on ?_
    refine HB.out.mono ?_
    rintro e w1 ⟨rfl, rfl⟩
    go_wp2
    go_big_quiet (fail)
    go_wp2
    go_ret2
    exact newF_no (below_drewM (Below.refl _ _) _) HN.out
  · have HN := hide (HR.out.trans (bothR_no HO.out))
    have hne : ((a.length : Int) != (b.length : Int)) = true := by rw [bne_iff_ne]; omega
    clear hr1 hr2 h3
    go_enter Try.func12, Try.ntmps12
    go_wp2_with (go_at_call 19; refine halted ?_)
    refine go_on ?_
    refine HA.out.mono ?_
    rintro e w1 ⟨rfl, rfl⟩
    go_wp2_with (go_at_call 19; refine halted ?_)
    refine go_on ?_
    refine HB.out.mono ?_
    rintro e w1 ⟨rfl, rfl⟩
    go_wp2
    go_big_quiet (fail)
    go_wp2
    go_ret2
    exact newF_no (below_drewM (Below.refl _ _) _) HN.out
  · have HXO := hide (HR.out.trans (bothR_ok HO.out))
    rw [← h3] at HB hl2 hc2 ⊢
    obtain ⟨ad1, u1, rfl, hb1, e1, k1⟩ := hr1.at_ (k := 0) (by have := lt_of_some HX.out; omega)
    obtain ⟨ad2, u2, rfl, hb2, e2, k2⟩ := hr2.at_ (k := 0) (by have := lt_of_some HY.out; omega)
    have g1 : w.cell? ad1 = some (.int .u8 (u1.toNat : Int)) := k1
    have g2 : w.cell? ad2 = some (.int .u8 (u2.toNat : Int)) := k2
    obtain rfl : u1 = x := by have := e1.out.symm.trans HX.out; injection this
    obtain rfl : u2 = y := by have := e2.out.symm.trans HY.out; injection this
    have hpos : 0 < a.length := lt_of_some HX.out
    have hxy : u1 = u2 := HXY.out
    subst hxy
    have H3 := hide h3
    clear k1 k2 e1 e2 h3 HXY HO
    go_enter Try.func12, Try.ntmps12
    go_wp2_with (go_at_call 19; refine halted ?_)
    refine go_on ?_
    refine HA.out.mono ?_
    rintro e w1 ⟨rfl, rfl⟩
    go_wp2_with (go_at_call 19; refine halted ?_)
    refine go_on ?_
    refine HB.out.mono ?_
    rintro e w1 ⟨rfl, rfl⟩
    go_wp2
    go_big_quiet (fail)
    generalize hW : w.drewN nq = W at *
    have hbW : Below w.heap.size w W := by rw [← hW]; exact below_drewM (Below.refl _ _) _
    have hsW : W.heap.size = w.heap.size := by rw [← hW]; rfl
    clear hW g1 g2
    have hmk := run_make_row' (P := Try.prog) 23 5 (.int .u8 0) 1 Try.underlying23 info_u8 rfl .i64 .i64 a.length (by omega) (by omega)
    have hown := own_made W (base := w.heap.size) (n := a.length) 5 (by omega) (by unfold maxLen; omega)
    have hbw : Below w.heap.size w (W.alloc (.cells (madeCells #[.int .u8 0] a.length) 5)) := hbW.alloc hbW.size _
    rw [← curR_zero a b] at hown
    have HOWN := hide hown
    clear hown
    go_wp2
    generalize (W.alloc (.cells (madeCells #[.int .u8 0] a.length) 5)) = W1 at *
    generalize W.heap.size = g at *
    subst hsW
    go_loopw [9] (fun i wr => ∃ k : Nat, k ≤ a.length ∧ i = .int .i64 (k : Int) ∧ OwnB wr w.heap.size 5 (some ⟨w.heap.size, 0, none⟩) a.length (curR a b k) ∧ Below w.heap.size w wr) (fun i _ => a.length - (intOf i).toNat)
    case atStart => exact ⟨0, Nat.zero_le _, rfl, HOWN.out, hbw⟩
    case round =>
      obtain ⟨k, hk, rfl, ho, hb⟩ := hrel
      by_cases hlt : k < a.length
      · obtain ⟨ad, x, e1, hd1, hx, hc⟩ := (hr1.below hb).at_ hlt
        injection e1 with e1
        subst e1
        obtain ⟨ad, y, e2, hd2, hy, hd⟩ := (hr2.below hb).at_ (k := k) (by rw [← H3.out]; exact hlt)
        injection e2 with e2
        subst e2
        have hlen := curR_len H3.out hk
        obtain ⟨z, hz⟩ : ∃ z, (curR a b k)[k]? = some z := ⟨_, List.getElem?_eq_getElem (by omega)⟩
        have hcell := ho.cellAt hz
        have hfro := ho.frozenAt k
        have hor := or_u8 x y
        have hst := ho.stored k (x ||| y)
        rw [← curR_next H3.out hx.out hy.out, UInt8.toNat_or] at hst
        have hbs := hb.setCell (p := ⟨w.heap.size, k, none⟩) (Nat.le_refl _) (.int .u8 ((x.toNat ||| y.toNat : Nat) : Int))
        have hgw : w.heap.size < wr.heap.size := lt_of_cell hcell
        have HST := hide hst
        have HBS := hide hbs
        have hxb := x.toNat_lt
        have hyb := y.toNat_lt
        clear hx hy hz ho hb hst hbs hr1 hr2 hlen
        go_wp2
        go_region_law (fail)
        all_goals
          go_wp2
          go_roundw
          case rel => exact ⟨k + 1, by omega, by go_num, OwnB.drew HST.out, Below.drew HBS.out⟩
          case measure => simp [intOf]; omega
      · have hkl : curR a b k = orL a b := curR_all H3.out (by omega)
        have hol : (orL a b).length = a.length := by unfold orL; rw [List.length_zipWith]; have := H3.out; omega
        rw [hkl] at ho
        have HO := hide ho
        have HOL := hide hol
        clear ho hkl hol
        go_wp2
        go_ret2
        rw [HXO.out]
        exact ⟨some ⟨w.heap.size, 0, none⟩, a.length, by rw [HOL.out]; rfl, HO.out, hb⟩
  · have HN := hide (HR.out.trans (bothR_no HO.out))
    rw [← h3] at HB hl2 hc2 ⊢
    obtain ⟨ad1, u1, rfl, hb1, e1, k1⟩ := hr1.at_ (k := 0) (by have := lt_of_some HX.out; omega)
    obtain ⟨ad2, u2, rfl, hb2, e2, k2⟩ := hr2.at_ (k := 0) (by have := lt_of_some HY.out; omega)
    have g1 : w.cell? ad1 = some (.int .u8 (u1.toNat : Int)) := k1
    have g2 : w.cell? ad2 = some (.int .u8 (u2.toNat : Int)) := k2
    obtain rfl : u1 = x := by have := e1.out.symm.trans HX.out; injection this
    obtain rfl : u2 = y := by have := e2.out.symm.trans HY.out; injection this
    have hpos : 0 < a.length := lt_of_some HX.out
    clear hr1 hr2 k1 k2 e1 e2 h3
    go_enter Try.func12, Try.ntmps12
    go_wp2_with (go_at_call 19; refine halted ?_)
    refine go_on ?_
    refine HA.out.mono ?_
    rintro e w1 ⟨rfl, rfl⟩
    go_wp2_with (go_at_call 19; refine halted ?_)
    refine go_on ?_
    refine HB.out.mono ?_
    rintro e w1 ⟨rfl, rfl⟩
    go_wp2
    go_big_quiet (fail)
    go_wp2
    go_ret2
    exact newF_no (below_drewM (Below.refl _ _) _) HN.out
end Go.Proofs.Ytnmgbhpmmbhgoaa
