/-
  rates.Rate and the reference's: what they compute.
-/
import Derived.Test.YtedaajilmeplnaaRTax
namespace Go.Proofs.Ytedaajilmeplnaa
open Go.RowKit
set_option linter.unusedVariables false

/-- The rate of the last bracket that begins below X. -/
def rateF : Int → List (Int × Int) → Int → Int
  | a, [], _ => a
  | a, b :: r, x => rateF (if b.1 < x then b.2 else a) r x
theorem rateF_step {brs : List (Int × Int)} {j : Nat} {f p : Int} (hj : brs[j]? = some (f, p)) (a x : Int) : rateF a (brs.drop j) x = rateF (if f < x then p else a) (brs.drop (j + 1)) x := by
  rw [drop_get hj]; rfl
theorem rateF_done {brs : List (Int × Int)} {lv : Int} (h : brsOk lv brs = true) {x : Int} (hx : x ≤ lv) (a : Int) : rateF a brs x = a := by
  induction brs generalizing lv with
  | nil => rfl
  | cons b r ih =>
    simp only [brsOk, Bool.and_eq_true, decide_eq_true_eq] at h
    show rateF (if b.1 < x then b.2 else a) r x = a
    rw [if_neg (by omega)]
    exact ih h.2 (by omega)
def rateR (s : Sch) (x : Int) : Int × Int := if s.ok x = true then (rateF 0 s.brs (s.part x), 0) else (0, 1)
theorem rateR_ok {s : Sch} {x : Int} (h : s.ok x = true) : rateR s x = (rateF 0 s.brs (s.part x), 0) := if_pos h
theorem rateR_no {s : Sch} {x : Int} (h : s.ok x = false) : rateR s x = (0, 1) := if_neg (by rw [h]; exact Bool.false_ne_true)

set_option maxRecDepth 100000 in
set_option maxHeartbeats 4000000 in
theorem rate_any (s : Sch) (A : Option Addr) (c : Nat) (x : Int) (w : World) (hr : Row w w.heap.size A (brCells s.brs)) (hl : s.brs.length ≤ 9223372036854775807) :
    Calls Try.prog 13 #[schV s A c, .int .i64 x] w fun e w' => e = .returned (.tuple #[.int .i64 (rateR s x).1, .int .i64 (rateR s x).2]) ∧ Below w.heap.size w w' := by
  have hta := taxed_any s A c x (w.alloc (.cells #[.slice A s.brs.length c, .int .i64 s.ded, .int .i64 s.cred, .int .i64 s.lbp, .int .i64 s.lmost, .int .i64 s.lleast] 24)) ((hr.alloc (Nat.le_refl _) _).more (by simp)) hl
  have hb0 : Below w.heap.size w (w.alloc (.cells #[.slice A s.brs.length c, .int .i64 s.ded, .int .i64 s.cred, .int .i64 s.lbp, .int .i64 s.lmost, .int .i64 s.lleast] 24)) := (Below.refl w.heap.size w).alloc (Nat.le_refl _) _
  unfold schV at *
  by_cases hok : s.ok x = true
  · have HT := hide (rateR_ok hok)
    rw [taxedR_ok hok] at hta
    have HTA := hide hta
    have hrt : s.right = true := by unfold Sch.ok at hok; simp only [Bool.and_eq_true] at hok; exact hok.1
    obtain ⟨d1, d2, d3, d4, hbrs, d5, d6⟩ := right_ded hrt
    have HB := hide hbrs
    generalize s.part x = X at *
    clear hta hok hrt hbrs
    go_enter Try.func13, Try.ntmps13
    go_wp2
    go_step3
    go_wp2_with (go_at_call 21; refine halted ?_)
    refine go_on ?_
    refine HTA.out.mono ?_
    rintro e w1 ⟨rfl, hb1⟩
    have hs1 : w.heap.size < w1.heap.size := by have := hb1.size; simp at this; omega
    have hc0 := hb1.cell (p := ⟨w.heap.size, 0, none⟩) (by simp)
    simp at hc0
    have hbw : Below w.heap.size w w1 := hb0.trans (hb1.mono (by simp))
    have hr1 : Row w1 w.heap.size A (brCells s.brs) := hr.below hbw
    clear hb0 hb1 hr HTA
    go_wp2
    go_step3
    go_wp2
    go_loopw [8, 23] (fun r i wr => ∃ (k : Nat) (a : Int), k ≤ s.brs.length ∧ i = .int .i64 (k : Int) ∧ r = .int .i64 a ∧ Hid (rateF a (s.brs.drop k) X = rateF 0 s.brs X) ∧ Below w1.heap.size w1 wr) (fun _ i _ => s.brs.length - (intOf i).toNat)
    case atStart => exact ⟨0, 0, Nat.zero_le _, rfl, rfl, rfl, Below.refl _ _⟩
    case round =>
      obtain ⟨k, a, hk, rfl, rfl, HR, hb⟩ := hrel
      have hrr := hr1.belowLe hb hbw.size
      have hfin : Below w.heap.size w wr := hbw.trans (hb.mono hbw.size)
      by_cases hlt : k < s.brs.length
      · obtain ⟨ad, f, p, rfl, hadb, hbk, hk1, hk2⟩ := hrr.bracket hlt
        have hget := brsOk_get HB.out hbk.out
        have hst := rateF_step hbk.out a X
        have hdn := fun (h : X ≤ f) => rateF_done hget.2.2.2.2.2 h
        have HST := hide hst
        have HDN := hide hdn
        clear hr1 hrr hget hst hdn hc0
        by_cases hfx : X ≤ f
        · have he : rateF 0 s.brs X = a := by rw [← HR.out, HST.out, if_neg (by omega)]; exact HDN.out hfx a
          have HE := hide he
          clear he
          go_wp2
          try rw [Exit.noGoto_ret]
          go_ret2
          exact ⟨by rw [HT.out, HE.out]; rfl, hfin.alloc hfin.size _⟩
        · have hfx2 : f < X := by omega
          go_wp2
          go_roundw
          case rel => exact ⟨k + 1, p, by omega, by go_num, rfl, by show _ = _; rw [← HR.out, HST.out, if_pos hfx2], hb.alloc hb.size _⟩
          case measure => simp [intOf]; omega
      · have he : rateF 0 s.brs X = a := by rw [← HR.out, List.drop_eq_nil_of_le (by omega)]; rfl
        have HE := hide he
        clear he hr1 hrr hc0
        go_wp2
        try rw [Exit.noGoto_ret]
        go_ret2
        exact ⟨by rw [HT.out, HE.out]; rfl, hfin⟩
  · have hno : s.ok x = false := by simpa using hok
    have HT := hide (rateR_no hno)
    rw [taxedR_no hno] at hta
    have HTA := hide hta
    clear hta hok hno
    go_enter Try.func13, Try.ntmps13
    go_wp2
    go_step3
    go_wp2_with (go_at_call 21; refine halted ?_)
    refine go_on ?_
    refine HTA.out.mono ?_
    rintro e w1 ⟨rfl, hb1⟩
    have hbw : Below w.heap.size w w1 := hb0.trans (hb1.mono (by simp))
    go_wp2_with fail
    try rw [Exit.noGoto_ret]
    go_ret2
    exact ⟨by rw [HT.out]; rfl, hbw⟩

set_option maxRecDepth 100000 in
set_option maxHeartbeats 4000000 in
theorem rrate_any (s : Sch) (A : Option Addr) (c : Nat) (x : Int) (w : World) (hr : Row w w.heap.size A (brCells s.brs)) (hl : s.brs.length ≤ 9223372036854775807) :
    Calls Try.prog 14 #[schV s A c, .int .i64 x] w fun e w' => e = .returned (.tuple #[.int .i64 (rateR s x).1, .int .i64 (rateR s x).2]) ∧ Below w.heap.size w w' := by
  have hra := rright_any s A c (w.alloc (.cells #[.slice A s.brs.length c, .int .i64 s.ded, .int .i64 s.cred, .int .i64 s.lbp, .int .i64 s.lmost, .int .i64 s.lleast] 24)) ((hr.alloc (Nat.le_refl _) _).more (by simp)) hl
  have hb0 : Below w.heap.size w (w.alloc (.cells #[.slice A s.brs.length c, .int .i64 s.ded, .int .i64 s.cred, .int .i64 s.lbp, .int .i64 s.lmost, .int .i64 s.lleast] 24)) := (Below.refl w.heap.size w).alloc (Nat.le_refl _) _
  have hin : Hid (∀ W, Calls Try.prog 23 #[.int .i64 x] W fun e w' => e = .returned (.bool (moneyB [x])) ∧ W = w') := fun W => rismoney_any x W
  unfold schV at *
  by_cases hok : s.ok x = true
  case neg =>
    have hno : s.ok x = false := by simpa using hok
    have HT := hide (rateR_no hno)
    unfold Sch.ok at hno
    generalize moneyB [x] = mb at *
    generalize s.right = sr at *
    have HRA := hide hra
    clear hra hok
    cases sr with
    | false =>
      clear hno
      go_enter Try.func14, Try.ntmps14
      go_wp2_with (go_at_call 15; refine halted ?_)
      refine go_on ?_
      refine HRA.out.mono ?_
      rintro e w1 ⟨rfl, hb1⟩
      have hbw : Below w.heap.size w w1 := hb0.trans (hb1.mono (by simp))
      go_wp2_with (go_at_call 23; refine halted ?_)
      refine go_on ?_
      refine (hin.out _).mono ?_
      rintro e w2 ⟨rfl, rfl⟩
      go_wp2
      go_ret2
      exact ⟨by rw [HT.out]; rfl, hbw⟩
    | true =>
      have hmb : mb = false := by simpa using hno
      subst hmb
      clear hno
      go_enter Try.func14, Try.ntmps14
      go_wp2_with (go_at_call 15; refine halted ?_)
      refine go_on ?_
      refine HRA.out.mono ?_
      rintro e w1 ⟨rfl, hb1⟩
      have hbw : Below w.heap.size w w1 := hb0.trans (hb1.mono (by simp))
      go_wp2_with (go_at_call 23; refine halted ?_)
      refine go_on ?_
      refine (hin.out _).mono ?_
      rintro e w2 ⟨rfl, rfl⟩
      go_wp2
      go_ret2
      exact ⟨by rw [HT.out]; rfl, hbw⟩
  have HT := hide (rateR_ok hok)
  have hrt : s.right = true := by unfold Sch.ok at hok; simp only [Bool.and_eq_true] at hok; exact hok.1
  have hxm : moneyB [x] = true := by unfold Sch.ok at hok; simp only [Bool.and_eq_true] at hok; exact hok.2
  obtain ⟨d1, d2, d3, d4, hbrs, d5, d6⟩ := right_ded hrt
  have hx := moneyB_one.1 hxm
  have hx0 := hx.1
  have hx1 := hx.2
  have hpt : s.part x = max (x - s.ded) 0 := rfl
  rw [hrt] at hra
  rw [hxm] at hin
  have HRA := hide hra
  have HB := hide hbrs
  clear hra hok hrt hxm hx hbrs
  obtain ⟨X, HX⟩ : ∃ X, Hid (X = s.part x) := ⟨_, rfl⟩
  rw [← HX.out] at HT hpt
  go_enter Try.func14, Try.ntmps14
  go_wp2_with (go_at_call 15; refine halted ?_)
  refine go_on ?_
  refine HRA.out.mono ?_
  rintro e w1 ⟨rfl, hb1⟩
  have hs1 : w.heap.size < w1.heap.size := by have := hb1.size; simp at this; omega
  have hc0 := hb1.cell (p := ⟨w.heap.size, 0, none⟩) (by simp)
  have hc1 := hb1.cell (p := ⟨w.heap.size, 1, none⟩) (by simp)
  simp at hc0 hc1
  have hbw : Below w.heap.size w w1 := hb0.trans (hb1.mono (by simp))
  have hr1 : Row w1 w.heap.size A (brCells s.brs) := hr.below hbw
  clear hb0 hb1 hr HRA
  go_wp2_with (go_at_call 23; refine halted ?_)
  refine go_on ?_
  refine (hin.out _).mono ?_
  rintro e w2 ⟨rfl, rfl⟩
  have HPT := hide hpt
  clear hpt
  go_upto_region 5 with (fail)
  go_cut [8] from 21 to 25 (fun v wx => v = .int .i64 X ∧ wx = w1)
  case first =>
    go_wp2
    all_goals
      go_meet
      case rel => exact ⟨by rw [HPT.out]; exact congrArg (Value.int .i64) (by omega), rfl⟩
  case rest =>
    obtain ⟨rfl, rfl⟩ := hcut
    go_wp2
    go_loop [9, 10] (fun r i => ∃ (k : Nat) (a : Int), k ≤ s.brs.length ∧ i = .int .i64 (k : Int) ∧ r = .int .i64 a ∧ Hid (rateF a (s.brs.drop k) X = rateF 0 s.brs X)) (fun _ i => s.brs.length - (intOf i).toNat)
    case atStart => exact ⟨0, 0, Nat.zero_le _, rfl, rfl, rfl⟩
    case round =>
      obtain ⟨k, a, hk, rfl, rfl, HR⟩ := hrel
      by_cases hlt : k < s.brs.length
      · obtain ⟨ad, f, p, rfl, hadb, hbk, hk1, hk2⟩ := hr1.bracket hlt
        have hst := rateF_step hbk.out a X
        have HST := hide hst
        clear hr1 hst
        by_cases hfx : X ≤ f
        · have hfx2 : ¬ f < X := by omega
          go_wp2
          go_round
          case rel => exact ⟨k + 1, a, by omega, by go_num, rfl, by show _ = _; rw [← HR.out, HST.out, if_neg hfx2]⟩
          case measure => simp [intOf]; omega
        · have hfx2 : f < X := by omega
          go_wp2
          go_round
          case rel => exact ⟨k + 1, p, by omega, by go_num, rfl, by show _ = _; rw [← HR.out, HST.out, if_pos hfx2]⟩
          case measure => simp [intOf]; omega
      · have he : rateF 0 s.brs X = a := by rw [← HR.out, List.drop_eq_nil_of_le (by omega)]; rfl
        have HE := hide he
        clear he hr1
        go_wp2
        go_ret2
        exact ⟨by rw [HT.out, HE.out]; rfl, hbw⟩
end Go.Proofs.Ytedaajilmeplnaa
