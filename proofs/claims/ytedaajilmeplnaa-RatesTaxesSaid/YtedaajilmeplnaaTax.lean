/-
  rates.taxed, rates.Tax: what they compute.
-/
import Derived.Test.YtedaajilmeplnaaRates
import Derived.BigQuiet
import Derived.Deep.QuietTactic
import Derived.WalkLawsBesides
namespace Go.Proofs.Ytedaajilmeplnaa
open Go.RowKit
set_option linter.unusedVariables false

theorem below_drewN {B : Nat} {a w : World} (h : Below B a w) (n : Nat) : Below B a (w.drewN n) := ⟨h.os, h.tape, h.output, h.size, h.block⟩

theorem right_ded {s : Sch} (h : s.right = true) : 0 ≤ s.ded ∧ s.ded ≤ 1125899906842624 ∧ 0 ≤ s.cred ∧ s.cred ≤ 1125899906842624 ∧ brsOk (-1) s.brs = true ∧ s.brs.length ≤ 10 ∧ 1 ≤ s.brs.length := by
  unfold Sch.right at h
  simp only [Bool.and_eq_true] at h
  have h1 := moneyB_three.1 h.2
  have h2 := h.1.1.1
  unfold Sch.sizes at h2
  simp only [Bool.and_eq_true, decide_eq_true_eq] at h2
  exact ⟨h1.1.1, h1.1.2, h1.2.1.1, h1.2.1.2, h.1.1.2, by omega, by omega⟩

theorem ret_tup {a b c : Int} (h : a = b) : Ending.returned (.tuple #[.int .i64 a, .int .i64 c]) = .returned (.tuple #[.int .i64 b, .int .i64 c]) := by rw [h]

def taxedR (s : Sch) (x : Int) : Int × Int := if s.ok x = true then (s.part x, 0) else (0, 1)
theorem taxedR_ok {s : Sch} {x : Int} (h : s.ok x = true) : taxedR s x = (s.part x, 0) := if_pos h
theorem taxedR_no {s : Sch} {x : Int} (h : s.ok x = false) : taxedR s x = (0, 1) := if_neg (by rw [h]; exact Bool.false_ne_true)

theorem taxed_any (s : Sch) (A : Option Addr) (c : Nat) (x : Int) (w : World) (hr : Row w w.heap.size A (brCells s.brs)) (hl : s.brs.length ≤ 9223372036854775807) :
    Calls Try.prog 21 #[schV s A c, .int .i64 x] w fun e w' => e = .returned (.tuple #[.int .i64 (taxedR s x).1, .int .i64 (taxedR s x).2]) ∧ Below w.heap.size w w' := by
  have hra := right_any s A c (w.alloc (.cells #[.slice A s.brs.length c, .int .i64 s.ded, .int .i64 s.cred, .int .i64 s.lbp, .int .i64 s.lmost, .int .i64 s.lleast] 24)) ((hr.alloc (Nat.le_refl _) _).more (by simp)) hl
  have hb0 : Below w.heap.size w (w.alloc (.cells #[.slice A s.brs.length c, .int .i64 s.ded, .int .i64 s.cred, .int .i64 s.lbp, .int .i64 s.lmost, .int .i64 s.lleast] 24)) := (Below.refl w.heap.size w).alloc (Nat.le_refl _) _
  have HRA := hide hra
  clear hra
  unfold schV at *
  by_cases hR : s.right = true
  · have hd := right_ded hR
    have hok : s.ok x = moneyB [x] := by unfold Sch.ok; rw [hR]; rfl
    rw [hR] at HRA
    have d1 := hd.1
    have d2 := hd.2.1
    have Hd := hide hd
    clear hr hd hR
    by_cases hm : moneyB [x] = true
    · have hx := moneyB_one.1 hm
      have hx1 := hx.1
      have hx2 := hx.2
      have HM := hide hm
      have HT := hide (taxedR_ok (hok.trans hm))
      have hpart : s.part x = max (x - s.ded) 0 := rfl
      rw [hpart] at HT
      clear hx hm hok hpart
      go_enter Try.func21, Try.ntmps21
      go_wp2_with (go_at_call 11; refine halted ?_)
      refine go_on ?_
      refine HRA.out.mono ?_
      rintro e w1 ⟨rfl, hb1⟩
      have hs1 : w.heap.size < w1.heap.size := by have := hb1.size; simp at this; omega
      have hc1 := hb1.cell (p := ⟨w.heap.size, 1, none⟩) (by simp)
      simp at hc1
      have hbw : Below w.heap.size w w1 := hb0.trans (hb1.mono (by simp))
      have hN := Row.new w1 #[.int .i64 x] 2 (0, 0)
      clear hb0 hb1
      go_wp2_with (go_at_call 22; refine halted ?_)
      refine go_on ?_
      refine (money_any _ _ 1 [x] _ hN (by simp)).mono ?_
      rw [HM.out]
      rintro e w' ⟨rfl, rfl⟩
      clear hN
      go_wp2_with fail
      all_goals
        go_ret2
        exact ⟨by rw [HT.out]; exact ret_tup (by omega), hbw.alloc (by omega) _⟩
    · have hm' : moneyB [x] = false := by simpa using hm
      have HM := hide hm'
      have HT := hide (taxedR_no (hok.trans hm'))
      clear hm hm' hok
      go_enter Try.func21, Try.ntmps21
      go_wp2_with (go_at_call 11; refine halted ?_)
      refine go_on ?_
      refine HRA.out.mono ?_
      rintro e w1 ⟨rfl, hb1⟩
      have hs1 : w.heap.size < w1.heap.size := by have := hb1.size; simp at this; omega
      have hbw : Below w.heap.size w w1 := hb0.trans (hb1.mono (by simp))
      have hN := Row.new w1 #[.int .i64 x] 2 (0, 0)
      clear hb0 hb1
      go_wp2_with (go_at_call 22; refine halted ?_)
      refine go_on ?_
      refine (money_any _ _ 1 [x] _ hN (by simp)).mono ?_
      rw [HM.out]
      rintro e w' ⟨rfl, rfl⟩
      clear hN
      go_wp2_with fail
      go_ret2
      exact ⟨by rw [HT.out]; rfl, hbw.alloc (by omega) _⟩
  · have hR' : s.right = false := by simpa using hR
    rw [hR'] at HRA
    have HT := hide (taxedR_no (s := s) (x := x) (by unfold Sch.ok; rw [hR']; rfl))
    clear hR hR'
    go_enter Try.func21, Try.ntmps21
    go_wp2_with (go_at_call 11; refine halted ?_)
    refine go_on ?_
    refine HRA.out.mono ?_
    rintro e w1 ⟨rfl, hb1⟩
    have hbw : Below w.heap.size w w1 := hb0.trans (hb1.mono (by simp))
    go_wp2_with fail
    go_ret2
    exact ⟨by rw [HT.out]; rfl, hbw⟩

def taxR (s : Sch) (x : Int) : Int × Int := if s.ok x = true then (s.tax x, 0) else (0, 1)
theorem taxR_ok {s : Sch} {x : Int} (h : s.ok x = true) : taxR s x = (s.tax x, 0) := if_pos h
theorem taxR_no {s : Sch} {x : Int} (h : s.ok x = false) : taxR s x = (0, 1) := if_neg (by rw [h]; exact Bool.false_ne_true)

set_option maxHeartbeats 1000000 in
theorem tax_any (s : Sch) (A : Option Addr) (c : Nat) (x : Int) (w : World) (hr : Row w w.heap.size A (brCells s.brs)) (hl : s.brs.length ≤ 9223372036854775807) :
    Calls Try.prog 10 #[schV s A c, .int .i64 x] w fun e w' => e = .returned (.tuple #[.int .i64 (taxR s x).1, .int .i64 (taxR s x).2]) ∧ Below w.heap.size w w' := by
  have hta := taxed_any s A c x (w.alloc (.cells #[.slice A s.brs.length c, .int .i64 s.ded, .int .i64 s.cred, .int .i64 s.lbp, .int .i64 s.lmost, .int .i64 s.lleast] 24)) ((hr.alloc (Nat.le_refl _) _).more (by simp)) hl
  have hb0 : Below w.heap.size w (w.alloc (.cells #[.slice A s.brs.length c, .int .i64 s.ded, .int .i64 s.cred, .int .i64 s.lbp, .int .i64 s.lmost, .int .i64 s.lleast] 24)) := (Below.refl w.heap.size w).alloc (Nat.le_refl _) _
  unfold schV at *
  by_cases hok : s.ok x = true
  · have HT := hide (taxR_ok hok)
    rw [taxedR_ok hok] at hta
    have HTA := hide hta
    have hrt : s.right = true := by unfold Sch.ok at hok; simp only [Bool.and_eq_true] at hok; exact hok.1
    have hxm : moneyB [x] = true := by unfold Sch.ok at hok; simp only [Bool.and_eq_true] at hok; exact hok.2
    obtain ⟨d1, d2, d3, d4, hbrs, d5, d6⟩ := right_ded hrt
    have hx := moneyB_one.1 hxm
    have htx : s.tax x = max (sumS s.brs (s.part x) / 10000 - s.cred) 0 := rfl
    rw [htx] at HT
    have hX0 : 0 ≤ s.part x := by unfold Sch.part; omega
    have hX1 : s.part x ≤ 1125899906842624 := by unfold Sch.part; omega
    have HB := hide hbrs
    generalize s.part x = X at *
    clear hta hok hrt hxm hx htx hbrs
    go_enter Try.func10, Try.ntmps10
    go_wp2_with (go_at_call 21; refine halted ?_)
    refine go_on ?_
    refine HTA.out.mono ?_
    rintro e w1 ⟨rfl, hb1⟩
    have hs1 : w.heap.size < w1.heap.size := by have := hb1.size; simp at this; omega
    have hc0 := hb1.cell (p := ⟨w.heap.size, 0, none⟩) (by simp)
    have hc2 := hb1.cell (p := ⟨w.heap.size, 2, none⟩) (by simp)
    simp at hc0 hc2
    have hbw : Below w.heap.size w w1 := hb0.trans (hb1.mono (by simp))
    have hr1 : Row w1 w.heap.size A (brCells s.brs) := hr.below hbw
    clear hb0 hb1 hr
    go_wp2
    go_loopw [6, 8, 9, 10] (fun l u p i wr => ∃ (iv lv uv pv : Int), i = .int .i64 iv ∧ l = .int .i64 lv ∧ u = .int .i64 uv ∧ p = .int .i64 pv ∧ -1 ≤ iv ∧ iv < s.brs.length ∧ Hid (lv = upTo (s.brs.drop (iv + 1).toNat) X) ∧
      Hid (uv * 10000 + pv = sumS (s.brs.drop (iv + 1).toNat) X) ∧ lv ≤ X ∧ 0 ≤ lv ∧ 0 ≤ uv ∧ uv + lv ≤ X ∧ 0 ≤ pv ∧ pv ≤ ((s.brs.length : Int) - 1 - iv) * 100000000 ∧ Below w1.heap.size w1 wr) (fun _ _ _ i _ => (intOf i + 1).toNat)
    case atStart =>
      have e1 : ((s.brs.length : Int) - 1 + 1).toNat = s.brs.length := by omega
      refine ⟨(s.brs.length : Int) - 1, X, 0, 0, rfl, rfl, rfl, rfl, by omega, by omega, ?_, ?_, by omega, hX0, by omega, by omega, by omega, by omega, Below.refl _ _⟩
      · rw [e1, List.drop_length]; rfl
      · rw [e1, List.drop_length]; rfl
    case round =>
      obtain ⟨iv, lv, uv, pv, rfl, rfl, rfl, rfl, hi0, hi1, HL, HU, hl1, hl0, hu0, hu1, hp0, hp1, hbel⟩ := hrel
      have hc0r := (hbel.cell (p := ⟨w.heap.size, 0, none⟩) hs1).trans hc0
      have hc2r := (hbel.cell (p := ⟨w.heap.size, 2, none⟩) hs1).trans hc2
      have hfin : Below w.heap.size w wr := hbw.trans (hbel.mono hbw.size)
      by_cases hi : 0 ≤ iv
      · obtain ⟨j, rfl⟩ := Int.eq_ofNat_of_zero_le hi
        have hrr : Row wr w.heap.size A (brCells s.brs) := hr1.belowLe hbel hbw.size
        obtain ⟨ad, f, p, rfl, hadb, hb, hk1, hk2⟩ := hrr.bracket (k := j) (by omega)
        have hst := tax_step HB.out hb.out X
        have hget := brsOk_get HB.out hb.out
        have ej : ((j : Int) + 1).toNat = j + 1 := by omega
        rw [ej] at HL HU
        rw [← HL.out, ← HU.out] at hst
        have g1 := hget.2.1
        have g2 := hget.2.2.1
        have g3 := hget.2.2.2.1
        have g4 := hget.2.2.2.2.1
        clear hr1 hrr hget hc0 hc2 ej
        by_cases hle : lv ≤ f
        · have hst1 := hide (hst.1 hle)
          clear hst
          go_wp2
          go_roundw
          case rel =>
            have ej : ((j : Int) - 1 + 1).toNat = j := by omega
            exact ⟨(j : Int) - 1, lv, uv, pv, rfl, rfl, rfl, rfl, by omega, by omega, by rw [ej]; exact hst1.out.1.symm, by rw [ej]; exact hst1.out.2.symm, by omega, by omega, by omega, by omega, by omega, by omega, hbel.alloc hbel.size _⟩
          case measure => simp [intOf]
        · have hlt : f < lv := by omega
          have htk := taken (lv - f) p (by omega) g3 g4
          have hst2 := hide (hst.2 hlt)
          have t0 := hide htk.1
          have t1 := htk.2.1
          have t2 := htk.2.2.1
          have t3 := htk.2.2.2.1
          have t4 := htk.2.2.2.2
          clear hst hle htk
          go_wp2
          go_quiet (fail)
          go_wp2
          go_roundw
          case rel =>
            have ej : ((j : Int) - 1 + 1).toNat = j := by omega
            refine ⟨(j : Int) - 1, f, uv + (lv - f) / 10000 * p, pv + (lv - f) % 10000 * p, rfl, rfl, rfl, rfl, by omega, by omega, by rw [ej]; exact hst2.out.1.symm, ?_, by omega, by omega, by omega, by omega, by omega, by omega, below_drewN (hbel.alloc hbel.size _) _⟩
            rw [ej]
            show _ = _
            rw [hst2.out.2, ← t0.out]
            omega
          case measure => simp [intOf]
      · have hi2 : iv = -1 := by omega
        subst hi2
        have hU := HU.out
        rw [show (-1 + 1 : Int).toNat = 0 from rfl, List.drop_zero] at hU
        have HU' := hide hU
        have hq : (uv * 10000 + pv) / 10000 = uv + pv / 10000 := by omega
        have HQ := hide hq
        clear hU HU HL hr1 hc0 hc2 hq
        go_wp2
        all_goals
          go_ret2
          exact ⟨by rw [HT.out, ← HU'.out, HQ.out]; exact ret_tup (by omega), hfin⟩
  · have hno : s.ok x = false := by simpa using hok
    have HT := hide (taxR_no hno)
    rw [taxedR_no hno] at hta
    have HTA := hide hta
    clear hta hok hno
    go_enter Try.func10, Try.ntmps10
    go_wp2_with (go_at_call 21; refine halted ?_)
    refine go_on ?_
    refine HTA.out.mono ?_
    rintro e w1 ⟨rfl, hb1⟩
    have hbw : Below w.heap.size w w1 := hb0.trans (hb1.mono (by simp))
    go_wp2_with fail
    go_ret2
    exact ⟨by rw [HT.out]; rfl, hbw⟩
end Go.Proofs.Ytedaajilmeplnaa
