/-
  rates.Encode: what it does.
-/
import Derived.Test.YtedaajilmeplnaaPut
namespace Go.Proofs.Ytedaajilmeplnaa
open Go.RowKit
set_option linter.unusedVariables false

/-- A schedule's numbers, up to its k-th bracket. -/
def numsTo (s : Sch) (k : Nat) : List Int := (s.brs.length : Int) :: (s.brs.take k).flatMap (fun b => [b.1, b.2])
def numsEnd (s : Sch) : List Int := [s.ded, s.cred, s.lbp, s.lmost, s.lleast]
def numsOf (s : Sch) : List Int := numsTo s s.brs.length ++ numsEnd s
theorem numsTo_next {s : Sch} {k : Nat} {f p : Int} (h : s.brs[k]? = some (f, p)) : numsTo s (k + 1) = numsTo s k ++ [f, p] := by
  unfold numsTo
  rw [List.take_add_one, h, Option.toList_some, List.flatMap_append]
  simp
theorem numsTo_len (s : Sch) (k : Nat) : (numsTo s k).length ≤ 1 + 2 * k := by
  unfold numsTo
  have : ∀ l : List (Int × Int), (l.flatMap (fun b => [b.1, b.2])).length = 2 * l.length := by
    intro l
    induction l with
    | nil => rfl
    | cons a l ih => simp only [List.flatMap_cons, List.length_append, List.length_cons, List.length_nil, ih]; omega
  rw [List.length_cons, this, List.length_take]
  omega
/-- What an encoding answers. -/
def encR (s : Sch) : List UInt8 × Int := if s.right = true then (numsB (numsOf s), 0) else ([], 1)
theorem encR_ok {s : Sch} (h : s.right = true) : encR s = (numsB (numsOf s), 0) := if_pos h
theorem encR_no {s : Sch} (h : s.right = false) : encR s = ([], 1) := if_neg (by rw [h]; exact Bool.false_ne_true)

theorem right_all {s : Sch} (h : s.right = true) : (0 ≤ s.ded ∧ s.ded ≤ 1125899906842624) ∧ (0 ≤ s.cred ∧ s.cred ≤ 1125899906842624) ∧ (0 ≤ s.lleast ∧ s.lleast ≤ 1125899906842624) ∧ (0 ≤ s.lbp ∧ s.lbp ≤ 10000) ∧ (0 ≤ s.lmost ∧ s.lmost ≤ 60) ∧ 1 ≤ s.brs.length ∧ s.brs.length ≤ 10 ∧ brsOk (-1) s.brs = true := by
  unfold Sch.right at h
  simp only [Bool.and_eq_true] at h
  have h1 := moneyB_three.1 h.2
  have h2 := h.1.1.1
  unfold Sch.sizes at h2
  simp only [Bool.and_eq_true, decide_eq_true_eq] at h2
  exact ⟨h1.1, h1.2.1, h1.2.2, by omega, by omega, by omega, by omega, h.1.1.2⟩

def EncRel (q : Nat) (s : Sch) (W : World) (i : Value) (wr : World) : Prop :=
  ∃ (k : Nat) (ds : List UInt8) (A : Option Addr) (c : Nat), k ≤ s.brs.length ∧ i = .int .i64 (k : Int) ∧ Hid (ds = numsB (numsTo s k)) ∧ Boxed wr q 37 (.slice A ds.length c) ∧ OwnB wr (q + 1) 5 A c ds ∧ Below q W wr

set_option maxRecDepth 100000 in
set_option maxHeartbeats 2000000 in
theorem encode_any (s : Sch) (A : Option Addr) (c : Nat) (w : World) (hr : Row w w.heap.size A (brCells s.brs)) (hl : s.brs.length ≤ 9223372036854775807) :
    Calls Try.prog 16 #[schV s A c] w fun e w' => NewB2 w w' e (encR s) := by
  have hra := right_any s A c (w.alloc (.cells #[.slice A s.brs.length c, .int .i64 s.ded, .int .i64 s.cred, .int .i64 s.lbp, .int .i64 s.lmost, .int .i64 s.lleast] 24)) ((hr.alloc (Nat.le_refl _) _).more (by simp)) hl
  have hb0 : Below w.heap.size w (w.alloc (.cells #[.slice A s.brs.length c, .int .i64 s.ded, .int .i64 s.cred, .int .i64 s.lbp, .int .i64 s.lmost, .int .i64 s.lleast] 24)) := (Below.refl w.heap.size w).alloc (Nat.le_refl _) _
  have HRA := hide hra
  clear hra
  unfold schV at *
  by_cases hR : s.right = true
  · rw [hR] at HRA
    have HE := hide (encR_ok hR)
    obtain ⟨a1, a2, a3, a4, a5, a6, a7, a8⟩ := right_all hR
    have HBR := hide a8
    clear a8 hR
    go_enter Try.func16, Try.ntmps16
    go_wp2_with (go_at_call 11; refine halted ?_)
    refine go_on ?_
    refine HRA.out.mono ?_
    rintro e w1 ⟨rfl, hb1⟩
    have hs1 : w.heap.size < w1.heap.size := by have := hb1.size; simp at this; omega
    have hc0 := hb1.cell (p := ⟨w.heap.size, 0, none⟩) (by simp)
    have hc1 := hb1.cell (p := ⟨w.heap.size, 1, none⟩) (by simp)
    have hc2 := hb1.cell (p := ⟨w.heap.size, 2, none⟩) (by simp)
    have hc3 := hb1.cell (p := ⟨w.heap.size, 3, none⟩) (by simp)
    have hc4 := hb1.cell (p := ⟨w.heap.size, 4, none⟩) (by simp)
    have hc5 := hb1.cell (p := ⟨w.heap.size, 5, none⟩) (by simp)
    simp at hc0 hc1 hc2 hc3 hc4 hc5
    have hbw : Below w.heap.size w w1 := hb0.trans (hb1.mono (by simp))
    have hr1 : Row w1 w.heap.size A (brCells s.brs) := hr.below hbw
    have hbox0 := (Boxed.new w1 37 (.slice none 0 0)).alloc (.cells #[.int .i64 (s.brs.length : Int)] 2)
    clear hb0 hb1 hr
    go_wp2_with (go_at_call 29; refine halted ?_)
    refine go_on ?_
    refine (put_any w1.heap.size (w1.heap.size + 1) 1 [(s.brs.length : Int)] [] none 0 _ rfl hbox0 (OwnB.nil _ _ _) (by omega) (by simp) (by intro h; unfold InRow at h; simp at h) (by
      intro j x hj
      cases j with
      | zero => simp at hj; subst hj; simp
      | succ j => simp at hj) (by intro x hx; simp at hx; omega) (by simp)).mono ?_
    rintro e w2 ⟨⟨v, rfl⟩, A2, c2, hbox2, hown2, hb2⟩
    have hb12 : Below w1.heap.size w1 w2 := (((Below.refl w1.heap.size w1).alloc (Nat.le_refl _) _).alloc (by simp) _).trans hb2
    have hc02 := (hb12.cell (p := ⟨w.heap.size, 0, none⟩) hs1).trans hc0
    clear hbox0 hb2
    go_wp2
    generalize hqq : w1.heap.size = q at *
    have HQ := hide hqq
    clear hqq
    go_loopw [21] (fun i wr => EncRel q s w1 i wr) (fun i _ => s.brs.length - (intOf i).toNat)
    case atStart => exact ⟨0, _, A2, c2, by omega, rfl, by show _ = _; simp [numsTo, numsB], hbox2, hown2, hb12⟩
    case round =>
      clear hbox2 hown2
      obtain ⟨k, ds, A3, c3, hk, rfl, HD, hbox, hown, hb⟩ := hrel
      have hdl : ds.length ≤ 231 := by
        rw [HD.out]
        have h1 := numsB_len (numsTo s k)
        have h2 := numsTo_len s k
        omega
      have hql := hbox.lt
      by_cases hlt : k < s.brs.length
      · have hrr : Row wr w.heap.size A (brCells s.brs) := hr1.belowLe hb (by omega)
        obtain ⟨ad, f, p, rfl, hadb, hbk, hk1, hk2⟩ := hrr.bracket hlt
        have hget := brsOk_get HBR.out hbk.out
        have hbox3 := (hbox.alloc (.cells #[.int .i64 f, .int .i64 p] 32)).alloc (.cells #[.int .i64 f, .int .i64 p] 2)
        have hown3 := (hown.alloc (.cells #[.int .i64 f, .int .i64 p] 32)).alloc (.cells #[.int .i64 f, .int .i64 p] 2)
        have g1 := hget.2.1
        have g2 := hget.2.2.1
        have g3 := hget.2.2.2.1
        have g4 := hget.2.2.2.2.1
        have hna : ¬ InRow A3 (wr.heap.size + 1) := fun h => by have := (hown.lt h).2; omega
        clear hrr hget hr1
        go_wp2_with (go_at_call 29; refine halted ?_)
        refine go_on ?_
        refine (put_any q (wr.heap.size + 1) 2 [f, p] ds A3 c3 _ rfl hbox3 hown3 (by omega) (by simp) hna (by
          intro j x hj
          match j, hj with
          | 0, hj => simp at hj; subst hj; simp
          | 1, hj => simp at hj; subst hj; simp
          | j + 2, hj => simp at hj) (by intro x hx; simp at hx; rcases hx with rfl | rfl <;> omega) (by simp; omega)).mono ?_
        rintro e w3 ⟨⟨v, rfl⟩, A4, c4, hbox4, hown4, hb4⟩
        have hb13 : Below q w1 w3 := ((hb.alloc (by omega) _).alloc (by simp; omega) _).trans hb4
        have HD2 : Hid (ds ++ numsB [f, p] = numsB (numsTo s (k + 1))) := by
          show _ = _
          rw [numsTo_next hbk.out, numsB_append, HD.out]
        rw [HD2.out] at hbox4 hown4
        clear hbox3 hown3 hbox hown hb4 hb
        go_wp2
        go_roundw
        case rel => exact ⟨k + 1, _, A4, c4, by omega, by go_num, rfl, hbox4, hown4, hb13⟩
        case measure => simp [intOf]; omega
      · have hkl : k = s.brs.length := by omega
        have d1 := (hb.cell (p := ⟨w.heap.size, 1, none⟩) hs1).trans hc1
        have d2 := (hb.cell (p := ⟨w.heap.size, 2, none⟩) hs1).trans hc2
        have d3 := (hb.cell (p := ⟨w.heap.size, 3, none⟩) hs1).trans hc3
        have d4 := (hb.cell (p := ⟨w.heap.size, 4, none⟩) hs1).trans hc4
        have d5 := (hb.cell (p := ⟨w.heap.size, 5, none⟩) hs1).trans hc5
        have hbox3 := hbox.alloc (.cells #[.int .i64 s.ded, .int .i64 s.cred, .int .i64 s.lbp, .int .i64 s.lmost, .int .i64 s.lleast] 2)
        have hown3 := hown.alloc (.cells #[.int .i64 s.ded, .int .i64 s.cred, .int .i64 s.lbp, .int .i64 s.lmost, .int .i64 s.lleast] 2)
        have hna : ¬ InRow A3 wr.heap.size := fun h => by have := (hown.lt h).2; omega
        clear hr1 hc0 hc1 hc2 hc3 hc4 hc5
        go_wp2_with (go_at_call 29; refine halted ?_)
        refine go_on ?_
        refine (put_any q wr.heap.size 5 (numsEnd s) ds A3 c3 _ rfl hbox3 hown3 (by omega) (by simp) hna (by
          intro j x hj
          unfold numsEnd at hj
          match j, hj with
          | 0, hj => simp at hj; subst hj; simp
          | 1, hj => simp at hj; subst hj; simp
          | 2, hj => simp at hj; subst hj; simp
          | 3, hj => simp at hj; subst hj; simp
          | 4, hj => simp at hj; subst hj; simp
          | j + 5, hj => simp at hj) (by intro x hx; simp [numsEnd] at hx; rcases hx with rfl | rfl | rfl | rfl | rfl <;> omega) (by simp [numsEnd]; omega)).mono ?_
        rintro e w3 ⟨⟨v, rfl⟩, A4, c4, hbox4, hown4, hb4⟩
        have hb13 : Below q w1 w3 := (hb.alloc (by omega) _).trans hb4
        have HD2 : Hid (ds ++ numsB (numsEnd s) = numsB (numsOf s)) := by
          show _ = _
          unfold numsOf
          rw [numsB_append, HD.out, hkl]
        rw [HD2.out] at hbox4 hown4
        have hbc := hbox4.cell
        have hbN : Below w.heap.size w w3 := hbw.trans (hb13.mono (by omega))
        have HN := hide (show NewB2 w w3 (.returned (.tuple #[.slice A4 (numsB (numsOf s)).length c4, .int .i64 0])) (encR s) from by rw [HE.out]; exact ⟨A4, c4, rfl, hown4.more (by omega), hbN⟩)
        clear hbox3 hown3 hbox hown hb4 hb hown4 hb13 hbN
        go_wp2
        go_ret2
        exact HN.out
  · have hR' : s.right = false := by simpa using hR
    rw [hR'] at HRA
    have HE := hide (encR_no hR')
    clear hR hR'
    go_enter Try.func16, Try.ntmps16
    go_wp2_with (go_at_call 11; refine halted ?_)
    refine go_on ?_
    refine HRA.out.mono ?_
    rintro e w1 ⟨rfl, hb1⟩
    have hbw : Below w.heap.size w w1 := hb0.trans (hb1.mono (by simp))
    go_wp2
    go_ret2
    rw [HE.out]
    exact ⟨none, 0, rfl, OwnB.nil _ _ _, hbw⟩
end Go.Proofs.Ytedaajilmeplnaa
