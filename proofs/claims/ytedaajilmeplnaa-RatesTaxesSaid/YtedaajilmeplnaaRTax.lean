/-
  The reference's Tax: what it computes.
-/
import Derived.Test.YtedaajilmeplnaaWideDiv
import Derived.Test.YtedaajilmeplnaaRRight
import Derived.Deep.RegionLaw
import Derived.Deep.DeepCutAuto
namespace Go.Proofs.Ytedaajilmeplnaa
open Go.RowKit
set_option linter.unusedVariables false

theorem rismoney_any (x : Int) (w : World) : Calls Try.prog 23 #[.int .i64 x] w fun e w' => e = .returned (.bool (moneyB [x])) ∧ w = w' := by
  rcases money1 x with ⟨h, h1, h2⟩ | ⟨h, h1⟩ | ⟨h, h1, h2⟩
  · have H := hide h
    clear h
    go_enter Try.func23, Try.ntmps23
    go_wp2
    go_ret
    exact ⟨by rw [H.out]; first | rfl | simp [h1, h2], rfl⟩
  · have H := hide h
    clear h
    go_enter Try.func23, Try.ntmps23
    go_wp2
    go_ret
    exact ⟨by rw [H.out]; first | rfl | simp [h1], rfl⟩
  · have H := hide h
    clear h
    go_enter Try.func23, Try.ntmps23
    go_wp2
    go_ret
    exact ⟨by rw [H.out]; first | rfl | simp [h2], rfl⟩

/-- A bracket, from below. -/
theorem sumS_step {brs : List (Int × Int)} {j : Nat} {f p : Int} (hj : brs[j]? = some (f, p)) (x : Int) : sumS (brs.drop j) x = max 0 (upTo (brs.drop (j + 1)) x - f) * p + sumS (brs.drop (j + 1)) x := by
  rw [drop_get hj]; rfl
theorem upTo_last {brs : List (Int × Int)} {j : Nat} (hj : brs.length ≤ j + 1) (x : Int) : upTo (brs.drop (j + 1)) x = x := by rw [List.drop_eq_nil_of_le hj]; rfl
theorem upTo_next {brs : List (Int × Int)} {j : Nat} {f p : Int} (hj : brs[j + 1]? = some (f, p)) (x : Int) : upTo (brs.drop (j + 1)) x = min x f := by rw [drop_get hj]; rfl

def RTaxRel (brs : List (Int × Int)) (X : Int) (qs : Nat) (w1 : World) (i : Value) (wr : World) : Prop :=
  ∃ (k : Nat) (S : Int), k ≤ brs.length ∧ i = .int .i64 (k : Int) ∧ 0 ≤ S ∧ S ≤ 11258999068426240000 * (k : Int) ∧ Hid (S + sumS (brs.drop k) X = sumS brs X) ∧
    wr.heap[qs]? = some (.cells #[.bool false, .int .u64 (dg0 S), .int .u64 (dg1 S), .int .u64 (dg2 S), .int .u64 (dg3 S)] 49 (0, 0)) ∧ Below qs w1 wr

theorem dg_zero : dg0 0 = 0 ∧ dg1 0 = 0 ∧ dg2 0 = 0 ∧ dg3 0 = 0 := by decide

set_option maxRecDepth 100000 in
set_option maxHeartbeats 8000000 in
theorem rtax_any (s : Sch) (A : Option Addr) (c : Nat) (x : Int) (w : World) (hr : Row w w.heap.size A (brCells s.brs)) (hl : s.brs.length ≤ 9223372036854775807) :
    Calls Try.prog 12 #[schV s A c, .int .i64 x] w fun e w' => e = .returned (.tuple #[.int .i64 (taxR s x).1, .int .i64 (taxR s x).2]) ∧ Below w.heap.size w w' := by
  have hra := rright_any s A c (w.alloc (.cells #[.slice A s.brs.length c, .int .i64 s.ded, .int .i64 s.cred, .int .i64 s.lbp, .int .i64 s.lmost, .int .i64 s.lleast] 24)) ((hr.alloc (Nat.le_refl _) _).more (by simp)) hl
  have hb0 : Below w.heap.size w (w.alloc (.cells #[.slice A s.brs.length c, .int .i64 s.ded, .int .i64 s.cred, .int .i64 s.lbp, .int .i64 s.lmost, .int .i64 s.lleast] 24)) := (Below.refl w.heap.size w).alloc (Nat.le_refl _) _
  have hin : Hid (∀ W, Calls Try.prog 23 #[.int .i64 x] W fun e w' => e = .returned (.bool (moneyB [x])) ∧ W = w') := fun W => rismoney_any x W
  unfold schV at *
  by_cases hok : s.ok x = true
  case neg =>
    have hno : s.ok x = false := by simpa using hok
    have HT := hide (taxR_no hno)
    unfold Sch.ok at hno
    generalize moneyB [x] = mb at *
    generalize s.right = sr at *
    have HRA := hide hra
    clear hra hok
    cases sr with
    | false =>
      clear hno
      go_enter Try.func12, Try.ntmps12
      go_wp2_with (go_at_call 15; refine halted ?_)
      refine go_on ?_
      refine HRA.out.mono ?_
      rintro e w1 ⟨rfl, hb1⟩
      have hbw : Below w.heap.size w w1 := hb0.trans (hb1.mono (by simp))
      go_wp2_with (go_at_call 23; refine halted ?_)
      refine go_on ?_
      refine (hin.out _).mono ?_
      rintro e w2 ⟨rfl, rfl⟩
      go_wp2
      go_ret2
      exact ⟨by rw [HT.out]; rfl, hbw⟩
    | true =>
      have hmb : mb = false := by simpa using hno
      subst hmb
      clear hno
      go_enter Try.func12, Try.ntmps12
      go_wp2_with (go_at_call 15; refine halted ?_)
      refine go_on ?_
      refine HRA.out.mono ?_
      rintro e w1 ⟨rfl, hb1⟩
      have hbw : Below w.heap.size w w1 := hb0.trans (hb1.mono (by simp))
      go_wp2_with (go_at_call 23; refine halted ?_)
      refine go_on ?_
      refine (hin.out _).mono ?_
      rintro e w2 ⟨rfl, rfl⟩
      go_wp2
      go_ret2
      exact ⟨by rw [HT.out]; rfl, hbw⟩
  have HT := hide (taxR_ok hok)
  have hrt : s.right = true := by unfold Sch.ok at hok; simp only [Bool.and_eq_true] at hok; exact hok.1
  have hxm : moneyB [x] = true := by unfold Sch.ok at hok; simp only [Bool.and_eq_true] at hok; exact hok.2
  obtain ⟨d1, d2, d3, d4, hbrs, d5, d6⟩ := right_ded hrt
  have hx := moneyB_one.1 hxm
  have hx0 := hx.1
  have hx1 := hx.2
  have htx : s.tax x = max (sumS s.brs (s.part x) / 10000 - s.cred) 0 := rfl
  have hpt : s.part x = max (x - s.ded) 0 := rfl
  rw [htx] at HT
  have hX0 : 0 ≤ s.part x := by unfold Sch.part; omega
  have hX1 : s.part x ≤ 1125899906842624 := by unfold Sch.part; omega
  rw [hrt] at hra
  rw [hxm] at hin
  have HRA := hide hra
  have HB := hide hbrs
  clear hra hok hrt hxm hx htx hbrs
  have hP : ∃ X, Hid (X = s.part x) := ⟨_, rfl⟩
  obtain ⟨X, HX⟩ := hP
  rw [← HX.out] at hX0 hX1 HT hpt
  go_enter Try.func12, Try.ntmps12
  go_wp2_with (go_at_call 15; refine halted ?_)
  refine go_on ?_
  refine HRA.out.mono ?_
  rintro e w1 ⟨rfl, hb1⟩
  have hs1 : w.heap.size < w1.heap.size := by have := hb1.size; simp at this; omega
  have hc0 := hb1.cell (p := ⟨w.heap.size, 0, none⟩) (by simp)
  have hc1 := hb1.cell (p := ⟨w.heap.size, 1, none⟩) (by simp)
  have hc2 := hb1.cell (p := ⟨w.heap.size, 2, none⟩) (by simp)
  simp at hc0 hc1 hc2
  have hbw : Below w.heap.size w w1 := hb0.trans (hb1.mono (by simp))
  have hr1 : Row w1 w.heap.size A (brCells s.brs) := hr.below hbw
  clear hb0 hb1 hr HRA
  go_wp2_with (go_at_call 23; refine halted ?_)
  refine go_on ?_
  refine (hin.out _).mono ?_
  rintro e w2 ⟨rfl, rfl⟩
  have HPT := hide hpt
  clear hpt
  go_upto_region 5 with (fail)
  go_cut [8] from 27 to 31 (fun v wx => v = .int .i64 X ∧ wx = w1)
  case first =>
    go_wp2
    all_goals
      go_meet
      case rel => exact ⟨by rw [HPT.out]; exact congrArg (Value.int .i64) (by omega), rfl⟩
  case rest =>
    obtain ⟨rfl, rfl⟩ := hcut
    have hqs : (wc.alloc (.cells #[.bool false, .int .u64 0, .int .u64 0, .int .u64 0, .int .u64 0] 49)).heap[wc.heap.size]? = some (.cells #[.bool false, .int .u64 0, .int .u64 0, .int .u64 0, .int .u64 0] 49 (0, 0)) := heap_alloc_new wc _
    have HQS := hide hqs
    have hb0 : Below wc.heap.size wc (wc.alloc (.cells #[.bool false, .int .u64 0, .int .u64 0, .int .u64 0, .int .u64 0] 49)) := (Below.refl _ _).alloc (Nat.le_refl _) _
    clear hqs
    go_wp2
    go_loopw [10] (fun i wr => RTaxRel s.brs X wc.heap.size wc i wr) (fun i _ => s.brs.length - (intOf i).toNat)
    case atStart => exact ⟨0, 0, by omega, rfl, by omega, by omega, by show _ = _; rw [Int.zero_add]; rfl, by rw [dg_zero.1, dg_zero.2.1, dg_zero.2.2.1, dg_zero.2.2.2]; exact HQS.out, hb0⟩
    case round =>
      obtain ⟨k, S, hk, rfl, hS0, hS1, HS, hbx, hb⟩ := hrel
      have hq : wc.heap.size < wr.heap.size := (Array.getElem?_eq_some_iff.1 hbx).1
      have z0 := (hb.cell (p := ⟨w.heap.size, 0, none⟩) hs1).trans hc0
      have z2 := (hb.cell (p := ⟨w.heap.size, 2, none⟩) hs1).trans hc2
      have hrr := hr1.belowLe hb hbw.size
      have hq0 : w.heap.size < wr.heap.size := by omega
      by_cases hlt : k < s.brs.length
      · obtain ⟨ad, f, p, rfl, hadb, hbk, hk1, hk2⟩ := hrr.bracket hlt
        have hget := brsOk_get HB.out hbk.out
        have g1 := hget.2.1
        have g2 := hget.2.2.1
        have g3 := hget.2.2.2.1
        have g4 := hget.2.2.2.2.1
        have hst := sumS_step hbk.out X
        have hadw : ad.block < wr.heap.size := by omega
        have hnx : (s.brs.length ≤ k + 1 ∧ Hid (upTo (s.brs.drop (k + 1)) X = X)) ∨ (k + 1 < s.brs.length ∧ ∃ f2, Hid (upTo (s.brs.drop (k + 1)) X = min X f2) ∧ 0 ≤ f2 ∧ f2 ≤ 1125899906842624 ∧ wr.cell? (ad.add ((k + 1) * 2)) = some (.int .i64 f2)) := by
          rcases Nat.lt_or_ge (k + 1) s.brs.length with h | h
          · obtain ⟨ad2, f2, p2, had2, -, hbk2, hkk, -⟩ := hrr.bracket h
            injection had2 with had2
            subst had2
            have hget2 := brsOk_get HB.out hbk2.out
            exact .inr ⟨h, f2, upTo_next hbk2.out X, hget2.2.1, hget2.2.2.1, hkk⟩
          · exact .inl ⟨h, upTo_last h X⟩
        generalize upTo (s.brs.drop (k + 1)) X = T at *
        have HNX := hide hnx
        clear hnx
        have hTr : T ≤ X ∧ 0 ≤ T := by
          rcases HNX.out with ⟨-, h⟩ | ⟨-, f2, h, h1, h2, -⟩
          · rw [h.out]; omega
          · rw [h.out]; omega
        obtain ⟨t1, t2⟩ := hTr
        have kn : IntKind.i64.wrap ((k : Int) + 1) = (k : Int) + 1 := by rw [IntKind.wrap_i64]; omega
        have HST := hide hst
        clear hst hget hrr
        have hba : Below wr.heap.size wr (wr.alloc (.cells #[.int .i64 f, .int .i64 p] 32)) := (Below.refl _ _).alloc (Nat.le_refl _) _
        go_upto_if 51 with (fail)
        go_cut [12] from 45 to 60 (fun v wx => v = .int .i64 T ∧ wx = (wr.alloc (.cells #[.int .i64 f, .int .i64 p] 32)))
        case first =>
          rcases HNX.out with ⟨h1, h2⟩ | ⟨h1, f2, h2, h3, h4, h5⟩
          · have h6 : ¬ ((k : Int) + 1 < (s.brs.length : Int)) := by omega
            go_wp2
            go_meet
            case rel => exact ⟨by rw [h2.out], rfl⟩
          · have h6 : (k : Int) + 1 < (s.brs.length : Int) := by omega
            have h7 := (hba.cell (p := ad.add ((k + 1) * 2)) (by rw [add_block]; exact hadw)).trans h5
            go_wp2
            all_goals
              go_meet
              case rel => exact ⟨by rw [h2.out]; exact congrArg (Value.int .i64) (by omega), rfl⟩
        case rest =>
          obtain ⟨rfl, rfl⟩ := hcut
          by_cases hgt : f < T
          · obtain ⟨dd, hdd⟩ : ∃ dd, dd = T - f := ⟨_, rfl⟩
            have hwd : IntKind.i64.wrap (T - f) = dd := by rw [IntKind.wrap_i64]; omega
            have hd0 : 0 ≤ dd := by omega
            have hd1 : dd ≤ 1125899906842624 := by omega
            have hpp0 : 0 ≤ dd * p := Int.mul_nonneg hd0 g3
            have hpp1 : dd * p ≤ 1125899906842624 * 10000 := Int.mul_le_mul hd1 g4 g3 (by omega)
            have hO1 := fun W => of_pos dd (by omega) hd0 W
            have hO2 := fun W => of_pos p (by omega) g3 W
            have hM := fun W => mul_any dd p hd0 (by omega) g3 (by omega) W
            have hA := fun W => add_same false S (dd * p) (by unfold Fit; omega) (by unfold Fit; omega) (by unfold Fit; omega) W
            have hS' : Hid (S + dd * p + sumS (s.brs.drop (k + 1)) X = sumS s.brs X) := by
              show _ = _
              rw [← HS.out, HST.out, show max 0 (T - f) = dd by omega]
              omega
            have hSb : S + dd * p ≤ 11258999068426240000 * ((k + 1 : Nat) : Int) := by omega
            have hSb0 : 0 ≤ S + dd * p := by omega
            have HSb := hide (And.intro hSb0 hSb)
            clear hpp0 hpp1 hSb hSb0
            obtain ⟨S2, hS2⟩ : ∃ S2, S2 = S + dd * p := ⟨_, rfl⟩
            rw [← hS2] at hA hS' HSb
            generalize wideV false (dd * p) = D3 at *
            generalize wideV false dd = D1 at *
            generalize wideV false p = D2 at *
            unfold wideV at hA
            have HO1 := hide hO1
            have HO2 := hide hO2
            have HM := hide hM
            have HA := hide hA
            have HDD := hide hdd
            clear hO1 hO2 hM hA hdd hS2
            have hbx2 := (hba.block _ hq).trans hbx
            have hbb : (wr.alloc (.cells #[.int .i64 f, .int .i64 p] 32)).heap[wr.heap.size]? = some (.cells #[.int .i64 f, .int .i64 p] 32 (0, 0)) := heap_alloc_new wr _
            have hWb : wr.heap.size + 1 ≤ (wr.alloc (.cells #[.int .i64 f, .int .i64 p] 32)).heap.size := by simp
            generalize (wr.alloc (.cells #[.int .i64 f, .int .i64 p] 32)) = Wb at *
            have hbW : Below wc.heap.size wc Wb := hb.trans (hba.mono (by omega))
            have hK : ∀ s0 s1 s2 s3, Wb.heap[wc.heap.size]? = some (.cells #[.bool false, .int .u64 s0, .int .u64 s1, .int .u64 s2, .int .u64 s3] 49 (0, 0)) → ∀ W, Below (wr.heap.size + 1) Wb W → W.cell? ⟨wc.heap.size, 0, none⟩ = some (.bool false) ∧ W.cell? ⟨wc.heap.size, 1, none⟩ = some (.int .u64 s0) ∧ W.cell? ⟨wc.heap.size, 2, none⟩ = some (.int .u64 s1) ∧ W.cell? ⟨wc.heap.size, 3, none⟩ = some (.int .u64 s2) ∧ W.cell? ⟨wc.heap.size, 4, none⟩ = some (.int .u64 s3) ∧ W.frozen? ⟨wc.heap.size, 0, none⟩ = false ∧ W.frozen? ⟨wc.heap.size, 1, none⟩ = false ∧ W.frozen? ⟨wc.heap.size, 2, none⟩ = false ∧ W.frozen? ⟨wc.heap.size, 3, none⟩ = false ∧ W.frozen? ⟨wc.heap.size, 4, none⟩ = false ∧ W.cell? ⟨wr.heap.size, 0, none⟩ = some (.int .i64 f) ∧ W.cell? ⟨wr.heap.size, 1, none⟩ = some (.int .i64 p) := by
              intro s0 s1 s2 s3 hbx W h
              have b1 := (h.block wc.heap.size (by omega)).trans hbx
              have b2 := (h.block wr.heap.size (by omega)).trans hbb
              exact ⟨Joins.cell_of_block b1 0, Joins.cell_of_block b1 1, Joins.cell_of_block b1 2, Joins.cell_of_block b1 3, Joins.cell_of_block b1 4, Joins.unfrozen_of_block b1 0, Joins.unfrozen_of_block b1 1, Joins.unfrozen_of_block b1 2, Joins.unfrozen_of_block b1 3, Joins.unfrozen_of_block b1 4, Joins.cell_of_block b2 0, Joins.cell_of_block b2 1⟩
            have HK := hide (hK _ _ _ _ hbx2)
            have HBX := hide hbx2
            obtain ⟨a00, a01, a02, a03, a04, b00, b01, b02, b03, b04, e00, e01⟩ := HK.out Wb (Below.refl _ _)
            have HBW := hide hbW
            clear hK hbx2 hbb hba hb hbx hbW hbk hk1 hk2 hr1 hbw HST HS HNX
            go_wp2
            go_region_law
              (first
                | (go_simp; go_at_call 25; (with_reducible refine (HO1.out _).mono ?_); rintro e u1 ⟨rfl, hb1⟩; have hB1 := ((Below.refl (wr.heap.size + 1) Wb).drew).trans (hb1.mono (hWb)); obtain ⟨a10, a11, a12, a13, a14, b10, b11, b12, b13, b14, e10, e11⟩ := HK.out _ hB1; dsimp only)
                | (go_simp; go_at_call 25; (with_reducible refine (HO2.out _).mono ?_); rintro e u2 ⟨rfl, hb2⟩; have hB2 := (hB1).trans (hb2.mono (Nat.le_trans hWb hB1.size)); obtain ⟨a20, a21, a22, a23, a24, b20, b21, b22, b23, b24, e20, e21⟩ := HK.out _ hB2; dsimp only)
                | (go_simp; go_at_call 26; (with_reducible refine (HM.out _).mono ?_); rintro e u3 ⟨rfl, hb3⟩; have hB3 := (hB2).trans (hb3.mono (Nat.le_trans hWb hB2.size)); obtain ⟨a30, a31, a32, a33, a34, b30, b31, b32, b33, b34, e30, e31⟩ := HK.out _ hB3; dsimp only)
                | (go_simp; go_at_call 24; (with_reducible refine (HA.out _).mono ?_); rintro e u4 ⟨rfl, hb4⟩; have hB4 := (hB3).trans (hb4.mono (Nat.le_trans hWb hB3.size)); obtain ⟨a40, a41, a42, a43, a44, b40, b41, b42, b43, b44, e40, e41⟩ := HK.out _ hB4; dsimp only))
            all_goals
              have q1 := (Joins.block_setCell (i := 4) (Joins.block_setCell (i := 3) (Joins.block_setCell (i := 2) (Joins.block_setCell (i := 1) (Joins.block_setCell (i := 0) ((hB4.block wc.heap.size (by omega)).trans HBX.out) (.bool false)) (.int .u64 (dg0 S2))) (.int .u64 (dg1 S2))) (.int .u64 (dg2 S2))) (.int .u64 (dg3 S2)))
              have hbN := below5 (q := wc.heap.size) (HBW.out.trans (hB4.mono (show wc.heap.size ≤ wr.heap.size + 1 by omega))) (Nat.le_refl _) (.bool false) (.int .u64 (dg0 S2)) (.int .u64 (dg1 S2)) (.int .u64 (dg2 S2)) (.int .u64 (dg3 S2))
              have Q1 := hide q1
              have HBN := hide hbN
              clear q1 hbN hb1 hb2 hb3 hb4 hB1 hB2 hB3 hB4
              generalize (((((u4.setCell ⟨wc.heap.size, 0, none⟩ (.bool false)).setCell ⟨wc.heap.size, 1, none⟩ (.int .u64 (dg0 S2))).setCell ⟨wc.heap.size, 2, none⟩ (.int .u64 (dg1 S2))).setCell ⟨wc.heap.size, 3, none⟩ (.int .u64 (dg2 S2))).setCell ⟨wc.heap.size, 4, none⟩ (.int .u64 (dg3 S2))) = W5 at *
              clear a00 a01 a02 a03 a04 b00 b01 b02 b03 b04 e00 e01 a10 a11 a12 a13 a14 b10 b11 b12 b13 b14 e10 e11 a20 a21 a22 a23 a24 b20 b21 b22 b23 b24 e20 e21 a30 a31 a32 a33 a34 b30 b31 b32 b33 b34 e30 e31 a40 a41 a42 a43 a44 b40 b41 b42 b43 b44 e40 e41
              go_wp2
              go_roundw
              case rel => exact ⟨k + 1, S2, by omega, by go_num, HSb.out.1, HSb.out.2, hS', Q1.out, HBN.out⟩
              case measure => simp [intOf]; omega
          · go_wp2
            go_roundw
            case rel => exact ⟨k + 1, S, by omega, by go_num, hS0, by omega, by show _ = _; rw [← HS.out, HST.out, show max 0 (T - f) = 0 by omega, Int.zero_mul, Int.zero_add], (hba.block _ hq).trans hbx, hb.alloc (by omega) _⟩
            case measure => simp [intOf]; omega
      · have hkl : k = s.brs.length := by omega
        obtain ⟨N, hN⟩ : ∃ N : Nat, S = (N : Int) := ⟨S.toNat, by omega⟩
        subst hN
        have hSe : Hid (sumS s.brs X = (N : Int)) := by
          show _ = _
          rw [← HS.out, List.drop_eq_nil_of_le (by omega)]
          simp [sumS]
        have hNb : (N : Int) ≤ 112589990684262400000 := by omega
        have hD := fun W => div_any N (by omega) W
        have hMb : ((N / 10000 : Nat) : Int) ≤ 11258999068426240 := by omega
        have hM0 : (0 : Int) ≤ ((N / 10000 : Nat) : Int) := by omega
        have hTo := fun W => told_any false ((N / 10000 : Nat) : Int) (by unfold Fit; omega) W
        rw [toldR_pos (by omega)] at hTo
        have hMe : Hid (((N / 10000 : Nat) : Int) = sumS s.brs X / 10000) := by show _ = _; rw [hSe.out]; omega
        unfold wideV at hD hTo
        generalize ((N / 10000 : Nat) : Int) = M at *
        generalize ((N % 10000 : Nat) : Int) = M2 at *
        have HD := hide hD
        have HTo := hide hTo
        clear hD hTo hSe hNb
        generalize dg0 M = m0 at *
        generalize dg1 M = m1 at *
        generalize dg2 M = m2 at *
        generalize dg3 M = m3 at *
        have a0 := Joins.cell_of_block hbx 0
        have a1 := Joins.cell_of_block hbx 1
        have a2 := Joins.cell_of_block hbx 2
        have a3 := Joins.cell_of_block hbx 3
        have a4 := Joins.cell_of_block hbx 4
        simp only [List.getElem?_toArray, List.getElem?_cons_zero, List.getElem?_cons_succ] at a0 a1 a2 a3 a4
        have hbw2 : Below w.heap.size w wr := hbw.trans (hb.mono hbw.size)
        have HBW2 := hide hbw2
        clear hbx hrr hr1 hb HS hbw2 hkl
        go_wp2_with (go_at_call 27; refine halted ?_)
        refine go_on ?_
        refine (HD.out _).mono ?_
        rintro e w5 ⟨rfl, hb5⟩
        have z2' := (hb5.cell (p := ⟨w.heap.size, 2, none⟩) hq0).trans z2
        have hw5 : w.heap.size < w5.heap.size := Nat.lt_of_lt_of_le hq0 hb5.size
        have hbw5 : Below w.heap.size w w5 := HBW2.out.trans (hb5.mono HBW2.out.size)
        have hba5 := hbw5.alloc hbw5.size (.cells #[.bool false, .int .u64 m0, .int .u64 m1, .int .u64 m2, .int .u64 m3] 49)
        clear z0 z2 a0 a1 a2 a3 a4 hb5
        go_wp2_with (go_at_call 28; refine halted ?_)
        refine go_on ?_
        refine (HTo.out _).mono ?_
        rintro e w6 ⟨rfl, hb6⟩
        have z2 := (hb6.cell (p := ⟨w.heap.size, 2, none⟩) (by simp; omega)).trans ((World.cell?_alloc_lt _ _ _ (by exact hw5)).trans z2')
        have hbw6 : Below w.heap.size w w6 := hba5.trans (hb6.mono hba5.size)
        clear z2' hb6 hba5
        go_wp2
        all_goals
          go_ret2
          exact ⟨by rw [HT.out, ← hMe.out]; exact ret_tup (by omega), hbw6⟩
end Go.Proofs.Ytedaajilmeplnaa
