/-
  The reference's Right: what it computes.
-/
import Derived.Test.YtedaajilmeplnaaRates
import Derived.Test.YtedaajilmeplnaaTax
import Derived.BigQuiet
import Derived.Deep.QuietTactic
namespace Go.Proofs.Ytedaajilmeplnaa
open Go.RowKit Go.BigFrame
set_option linter.unusedVariables false

theorem right_head {s : Sch} (h : headZero s.brs = false) : s.right = false := by
  unfold Sch.right
  rw [h]
  simp

/-- The money parts, one behind the other. -/
theorem money3 (x y z : Int) : (moneyB [x, y, z] = true ∧ 0 ≤ x ∧ x ≤ 1125899906842624 ∧ 0 ≤ y ∧ y ≤ 1125899906842624 ∧ 0 ≤ z ∧ z ≤ 1125899906842624) ∨ (moneyB [x, y, z] = false ∧ x < 0) ∨ (moneyB [x, y, z] = false ∧ 0 ≤ x ∧ 1125899906842624 < x) ∨
    (moneyB [x, y, z] = false ∧ 0 ≤ x ∧ x ≤ 1125899906842624 ∧ y < 0) ∨ (moneyB [x, y, z] = false ∧ 0 ≤ x ∧ x ≤ 1125899906842624 ∧ 0 ≤ y ∧ 1125899906842624 < y) ∨
    (moneyB [x, y, z] = false ∧ 0 ≤ x ∧ x ≤ 1125899906842624 ∧ 0 ≤ y ∧ y ≤ 1125899906842624 ∧ z < 0) ∨ (moneyB [x, y, z] = false ∧ 0 ≤ x ∧ x ≤ 1125899906842624 ∧ 0 ≤ y ∧ y ≤ 1125899906842624 ∧ 0 ≤ z ∧ 1125899906842624 < z) := by
  have h := @moneyB_three x y z
  by_cases c1 : x < 0
  · exact .inr (.inl ⟨by rw [Bool.eq_false_iff]; intro hm; have := h.1 hm; omega, c1⟩)
  by_cases c2 : 1125899906842624 < x
  · exact .inr (.inr (.inl ⟨by rw [Bool.eq_false_iff]; intro hm; have := h.1 hm; omega, by omega, c2⟩))
  by_cases c3 : y < 0
  · exact .inr (.inr (.inr (.inl ⟨by rw [Bool.eq_false_iff]; intro hm; have := h.1 hm; omega, by omega, by omega, c3⟩)))
  by_cases c4 : 1125899906842624 < y
  · exact .inr (.inr (.inr (.inr (.inl ⟨by rw [Bool.eq_false_iff]; intro hm; have := h.1 hm; omega, by omega, by omega, by omega, c4⟩))))
  by_cases c5 : z < 0
  · exact .inr (.inr (.inr (.inr (.inr (.inl ⟨by rw [Bool.eq_false_iff]; intro hm; have := h.1 hm; omega, by omega, by omega, by omega, by omega, c5⟩)))))
  by_cases c6 : 1125899906842624 < z
  · exact .inr (.inr (.inr (.inr (.inr (.inr ⟨by rw [Bool.eq_false_iff]; intro hm; have := h.1 hm; omega, by omega, by omega, by omega, by omega, by omega, c6⟩)))))
  · exact .inl ⟨h.2 (by omega), by omega, by omega, by omega, by omega, by omega, by omega⟩

theorem money1 (x : Int) : (moneyB [x] = true ∧ 0 ≤ x ∧ x ≤ 1125899906842624) ∨ (moneyB [x] = false ∧ x < 0) ∨ (moneyB [x] = false ∧ 0 ≤ x ∧ 1125899906842624 < x) := by
  have h := @moneyB_one x
  by_cases c1 : x < 0
  · exact .inr (.inl ⟨by rw [Bool.eq_false_iff]; intro hm; have := h.1 hm; omega, c1⟩)
  by_cases c2 : 1125899906842624 < x
  · exact .inr (.inr ⟨by rw [Bool.eq_false_iff]; intro hm; have := h.1 hm; omega, by omega, c2⟩)
  · exact .inl ⟨h.2 (by omega), by omega, by omega⟩

set_option maxHeartbeats 2000000 in
set_option maxRecDepth 100000 in
theorem rright_any (s : Sch) (A : Option Addr) (c : Nat) (w : World) (hr : Row w w.heap.size A (brCells s.brs)) (hl : s.brs.length ≤ 9223372036854775807) :
    Calls Try.prog 15 #[schV s A c] w fun e w' => e = .returned (.bool s.right) ∧ Below w.heap.size w w' := by
  have hways := sizes_ways s
  have hrt : s.sizes = true → s.right = (brsOk (-1) s.brs && headZero s.brs && moneyB [s.ded, s.cred, s.lleast]) := fun h => by unfold Sch.right; rw [h, Bool.true_and]
  have hrh : headZero s.brs = false → s.right = false := right_head
  generalize s.right = R at *
  obtain ⟨brs, ded, cred, lbp, lmost, lleast⟩ := s
  unfold schV
  dsimp only at *
  have hb0 : Below w.heap.size w (w.alloc (.cells #[.slice A brs.length c, .int .i64 ded, .int .i64 cred, .int .i64 lbp, .int .i64 lmost, .int .i64 lleast] 24)) := (Below.refl w.heap.size w).alloc (Nat.le_refl _) _
  by_cases h0 : brs.length < 1
  · have hR : R = false := hrh (by have : brs = [] := List.eq_nil_of_length_eq_zero (by omega); subst this; rfl)
    subst hR
    clear hways hrt hrh hr
    go_enter Try.func15, Try.ntmps15
    go_wp2
    go_ret
    exact ⟨rfl, hb0⟩
  have hra := hr.alloc (Nat.le_refl _) (.cells #[.slice A brs.length c, .int .i64 ded, .int .i64 cred, .int .i64 lbp, .int .i64 lmost, .int .i64 lleast] 24)
  obtain ⟨ad, f0, p0, rfl, hadb, hbz, hcz, -⟩ := hra.bracket (k := 0) (by omega)
  rw [Nat.zero_mul] at hcz
  have hcz : (w.alloc (.cells #[.slice (some ad) brs.length c, .int .i64 ded, .int .i64 cred, .int .i64 lbp, .int .i64 lmost, .int .i64 lleast] 24)).cell? ad = some (.int .i64 f0) := hcz
  have hhz : headZero brs = decide (f0 = 0) := by
    have := hbz.out
    cases brs with
    | nil => simp at this
    | cons b r => simp at this; subst this; rfl
  by_cases hf0 : f0 = 0
  case neg =>
    have hR : R = false := hrh (by rw [hhz]; simpa using hf0)
    subst hR
    have hfb : (f0 != 0) = true := by simpa using hf0
    clear hways hrt hrh hr hra hf0 hbz hhz
    by_cases h10 : 10 < brs.length
    · go_enter Try.func15, Try.ntmps15
      go_wp2
      go_ret
      exact ⟨rfl, hb0⟩
    · go_enter Try.func15, Try.ntmps15
      go_wp2
      go_ret
      exact ⟨rfl, hb0⟩
  subst hf0
  rcases hways with ⟨hs, h1, h2, h3, h4, h5, h6⟩ | ⟨rfl, h1⟩ | ⟨rfl, h1, h2⟩ | ⟨rfl, h1, h2, h3⟩ | ⟨rfl, h1, h2, h3, h4⟩ | ⟨rfl, h1, h2, h3, h4, h5⟩ | ⟨rfl, h1, h2, h3, h4, h5, h6⟩
  rotate_left
  · exact absurd h1 h0
  iterate 5
    · clear hrt hrh hr hra hbz hhz
      go_enter Try.func15, Try.ntmps15
      go_wp2
      go_ret
      exact ⟨rfl, hb0⟩
  have HR := hide (hrt hs)
  have HHZ : Hid (headZero brs = true) := by show _ = _; rw [hhz]; rfl
  clear hrt hs hrh hhz
  go_enter Try.func15, Try.ntmps15
  go_wp2
  go_loopw [3] (fun i wr => ∃ k : Nat, k ≤ brs.length ∧ i = .int .i64 (k : Int) ∧ Hid (∃ lv : Int, (k = 0 ∧ lv = -1 ∨ ∃ p, 0 < k ∧ brs[k - 1]? = some (lv, p)) ∧ -1 ≤ lv ∧ brsOk (-1) brs = brsOk lv (brs.drop k)) ∧
    Below (w.heap.size + 1) (w.alloc (.cells #[.slice (some ad) brs.length c, .int .i64 ded, .int .i64 cred, .int .i64 lbp, .int .i64 lmost, .int .i64 lleast] 24)) wr) (fun i _ => brs.length - (intOf i).toNat)
  case atStart => exact ⟨0, Nat.zero_le _, rfl, ⟨-1, .inl ⟨rfl, rfl⟩, by omega, rfl⟩, Below.refl _ _⟩
  case round =>
    obtain ⟨k, hk, rfl, HB, hbel⟩ := hrel
    obtain ⟨lv, hlv0, hlv1, hlvB⟩ := HB.out
    have hx0 := hbel.cell (p := ⟨w.heap.size, 0, none⟩) (by simp)
    simp at hx0
    have hlt1 : w.heap.size + 1 ≤ wr.heap.size := by have := hbel.size; simpa using this
    have hW1 : Below w.heap.size w wr := hb0.trans (hbel.mono (Nat.le_succ _))
    by_cases hlt : k < brs.length
    · have hrr : Row wr w.heap.size (some ad) (brCells brs) := hra.belowLe hbel (Nat.le_succ _)
      obtain ⟨ad', f, p, had', hadb', hb, hc1, hc2⟩ := hrr.bracket hlt
      injection had' with had'
      subst had'
      have hsp := brsOk_at hb.out lv
      have hfin : Below w.heap.size w (wr.alloc (.cells #[.int .i64 f, .int .i64 p] 32)) := hW1.alloc (by omega) _
      have hprev : 0 < k → ∃ m, Hid (m = k - 1) ∧ m < brs.length ∧ IntKind.i64.wrap ((k : Int) - 1) = (m : Int) ∧ wr.cell? (ad.add (m * 2)) = some (.int .i64 lv) := by
        intro hk0
        rcases hlv0 with ⟨h, -⟩ | ⟨q, -, hq⟩
        · omega
        · obtain ⟨h1, -⟩ := brCells_at hq
          obtain ⟨ad2, hA2, -, hc3⟩ := hrr _ _ h1
          injection hA2 with hA2
          subst hA2
          exact ⟨k - 1, rfl, by omega, by rw [IntKind.wrap_i64]; omega, hc3⟩
      have hlvz : k = 0 → lv = -1 := by
        intro h
        rcases hlv0 with ⟨-, h2⟩ | ⟨q, h2, -⟩
        · exact h2
        · omega
      have hba : Below wr.heap.size wr (wr.alloc (.cells #[.int .i64 f, .int .i64 p] 32)) := (Below.refl wr.heap.size wr).alloc (Nat.le_refl _) _
      have hx0A := (hba.cell (p := ⟨w.heap.size, 0, none⟩) (by show w.heap.size < _; omega)).trans hx0
      have hadw : ad.block < wr.heap.size := by omega
      clear hr hrr hra hcz hbz hlv0 HB
      rcases bracket_ways f p lv with ⟨ho, m1, m2, m3, m4, m5⟩ | ⟨ho, hm⟩ | ⟨ho, m1, m2, m3⟩ | ⟨ho, m1, m2, m3, m4⟩ | ⟨ho, m1, m2, m3, m4, m5⟩
      · rw [ho, Bool.true_and] at hsp
        have HS : Hid (∃ lv : Int, (k + 1 = 0 ∧ lv = -1 ∨ ∃ p, 0 < k + 1 ∧ brs[k + 1 - 1]? = some (lv, p)) ∧ -1 ≤ lv ∧ brsOk (-1) brs = brsOk lv (brs.drop (k + 1))) := ⟨f, .inr ⟨p, by omega, hb.out⟩, by omega, hlvB.trans hsp⟩
        clear hsp ho hlvB
        rcases Nat.eq_zero_or_pos k with hk0 | hk0
        · subst hk0
          have hcz : wr.cell? ad = some (.int .i64 f) := by rw [Nat.zero_mul] at hc1; exact hc1
          have hdz : wr.cell? ⟨ad.block, ad.off + 1, none⟩ = some (.int .i64 p) := by rw [Nat.zero_mul] at hc2; exact hc2
          clear hprev hlvz hc1 hc2
          go_wp2
          have q1 : ¬ (p < 0) := by omega
          have q2 : ¬ (10000 < p) := by omega
          go_big_quiet (fail)
          go_wp2
          go_roundw
          case rel => exact ⟨1, by omega, rfl, HS.out, below_drewN (hbel.alloc (by omega) _) _⟩
          case measure => simp [intOf]; omega
        · obtain ⟨m, hm, hml, hw, hcm0⟩ := hprev hk0
          have hcm := (hba.cell (p := ad.add (m * 2)) (by rw [add_block]; exact hadw)).trans hcm0
          clear hprev hlvz
          go_wp2
          have q1 : ¬ (p < 0) := by omega
          have q2 : ¬ (10000 < p) := by omega
          have q3 : ¬ (f ≤ lv) := by omega
          go_big_quiet (fail)
          go_wp2
          go_roundw
          case rel => exact ⟨k + 1, by omega, by go_num, HS.out, below_drewN (hbel.alloc (by omega) _) _⟩
          case measure => simp [intOf]; omega
      · rcases money1 f with ⟨h1, -⟩ | ⟨-, h1⟩ | ⟨-, h1, h2⟩
        · rw [hm] at h1; cases h1
        · have hR : R = false := by rw [HR.out, hlvB, hsp, ho]; rfl
          have HR' := hide hR
          clear hR hlvB hsp ho HR hprev hlvz hbel hm
          have n1 : ¬ (0 ≤ f) := by omega
          go_wp2
          go_big_quiet (fail)
          go_wp2
          go_ret
          exact ⟨by rw [HR'.out]; rfl, below_drewN hfin _⟩
        · have hR : R = false := by rw [HR.out, hlvB, hsp, ho]; rfl
          have HR' := hide hR
          clear hR hlvB hsp ho HR hprev hlvz hbel hm
          have n1 : ¬ (f ≤ 1125899906842624) := by omega
          go_wp2
          go_big_quiet (fail)
          go_wp2
          go_ret
          exact ⟨by rw [HR'.out]; rfl, below_drewN hfin _⟩
      · have hk0 : 0 < k := by
          rcases Nat.eq_zero_or_pos k with h | h
          · have := hlvz h; omega
          · exact h
        obtain ⟨m, hm, hml, hw, hcm0⟩ := hprev hk0
        have hcm := (hba.cell (p := ad.add (m * 2)) (by rw [add_block]; exact hadw)).trans hcm0
        by_cases hp0 : p < 0
        · have hR : R = false := by rw [HR.out, hlvB, hsp, ho]; rfl
          have HR' := hide hR
          clear hR hlvB hsp ho HR hprev hlvz hbel
          go_wp2
          have q1 : p < 0 := by omega
          go_big_quiet (fail)
          go_wp2
          go_ret
          exact ⟨by rw [HR'.out]; rfl, below_drewN hfin _⟩
        by_cases hp1 : 10000 < p
        · have hR : R = false := by rw [HR.out, hlvB, hsp, ho]; rfl
          have HR' := hide hR
          clear hR hlvB hsp ho HR hprev hlvz hbel
          go_wp2
          have q1 : ¬ (p < 0) := by omega
          have q2 : 10000 < p := by omega
          go_big_quiet (fail)
          go_wp2
          go_ret
          exact ⟨by rw [HR'.out]; rfl, below_drewN hfin _⟩
        have hR : R = false := by rw [HR.out, hlvB, hsp, ho]; rfl
        have HR' := hide hR
        clear hR hlvB hsp ho HR hprev hlvz hbel
        go_wp2
        have q1 : ¬ (p < 0) := by omega
        have q2 : ¬ (10000 < p) := by omega
        have q3 : f ≤ lv := by omega
        go_big_quiet (fail)
        go_wp2
        go_ret
        exact ⟨by rw [HR'.out]; rfl, below_drewN hfin _⟩
      · have hR : R = false := by rw [HR.out, hlvB, hsp, ho]; rfl
        have HR' := hide hR
        clear hR hlvB hsp ho HR hprev hlvz hbel
        go_wp2
        have q1 : p < 0 := by omega
        go_big_quiet (fail)
        go_wp2
        go_ret
        exact ⟨by rw [HR'.out]; rfl, below_drewN hfin _⟩
      · have hR : R = false := by rw [HR.out, hlvB, hsp, ho]; rfl
        have HR' := hide hR
        clear hR hlvB hsp ho HR hprev hlvz hbel
        go_wp2
        have q1 : ¬ (p < 0) := by omega
        have q2 : 10000 < p := by omega
        go_big_quiet (fail)
        go_wp2
        go_ret
        exact ⟨by rw [HR'.out]; rfl, below_drewN hfin _⟩
    · have hd : brs.drop k = [] := List.drop_eq_nil_of_le (by omega)
      have hx1 := hbel.cell (p := ⟨w.heap.size, 1, none⟩) (by simp)
      have hx2 := hbel.cell (p := ⟨w.heap.size, 2, none⟩) (by simp)
      have hx5 := hbel.cell (p := ⟨w.heap.size, 5, none⟩) (by simp)
      simp at hx1 hx2 hx5
      have hRe : R = moneyB [ded, cred, lleast] := by rw [HR.out, HHZ.out, hlvB, hd]; simp [brsOk]
      have HRe := hide hRe
      clear hr hra hcz hbz hlv0 HB hlvB HR HHZ hd hRe
      rcases money3 ded cred lleast with ⟨hm, m1, m2, m3, m4, m5, m6⟩ | ⟨hm, m1⟩ | ⟨hm, m1, m2⟩ | ⟨hm, m1, m2, m3⟩ | ⟨hm, m1, m2, m3, m4⟩ | ⟨hm, m1, m2, m3, m4, m5⟩ | ⟨hm, m1, m2, m3, m4, m5, m6⟩
      all_goals
        rw [hm] at HRe
        clear hm
        go_wp2
        go_ret
        exact ⟨by rw [HRe.out]; first | rfl | exact congrArg (fun b => Ending.returned (Value.bool b)) (decide_eq_true m6) | exact congrArg (fun b => Ending.returned (Value.bool b)) (decide_eq_false (by omega)), hW1⟩
end Go.Proofs.Ytedaajilmeplnaa
