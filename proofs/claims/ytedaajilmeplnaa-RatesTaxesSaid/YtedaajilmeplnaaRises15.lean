/-
  RatesRises and RatesJoins, walked.
-/
import Derived.Test.YtedaajilmeplnaaLaws15
namespace Go.Proofs.Ytedaajilmeplnaa
open Go.RowKit
set_option linter.unusedVariables false

/-- The cells of a schedule in a box. -/
def boxS (s : Sch) (A : Option Addr) (c : Nat) : Array Value := #[.slice A s.brs.length c, .int .i64 s.ded, .int .i64 s.cred, .int .i64 s.lbp, .int .i64 s.lmost, .int .i64 s.lleast]

theorem boxed_cells {w w' : World} {s : Sch} {A : Option Addr} {c : Nat} {t : TypeId} (hb : Below (w.heap.size + 1) (w.alloc (.cells #[.slice A s.brs.length c, .int .i64 s.ded, .int .i64 s.cred, .int .i64 s.lbp, .int .i64 s.lmost, .int .i64 s.lleast] t)) w') :
    w'.cell? ⟨w.heap.size, 0, none⟩ = some (.slice A s.brs.length c) ∧ w'.cell? ⟨w.heap.size, 1, none⟩ = some (.int .i64 s.ded) ∧ w'.cell? ⟨w.heap.size, 2, none⟩ = some (.int .i64 s.cred) ∧
    w'.cell? ⟨w.heap.size, 3, none⟩ = some (.int .i64 s.lbp) ∧ w'.cell? ⟨w.heap.size, 4, none⟩ = some (.int .i64 s.lmost) ∧ w'.cell? ⟨w.heap.size, 5, none⟩ = some (.int .i64 s.lleast) := by
  refine ⟨(hb.cell (by simp)).trans (by simp), (hb.cell (by simp)).trans (by simp), (hb.cell (by simp)).trans (by simp), (hb.cell (by simp)).trans (by simp), (hb.cell (by simp)).trans (by simp), (hb.cell (by simp)).trans (by simp)⟩

/-- The cells of a schedule whose deduction and credit were struck, in the box of number n. -/
def Box0 (w : World) (n : Nat) (s : Sch) (A : Option Addr) (c : Nat) : Prop :=
  w.cell? ⟨n, 0, none⟩ = some (.slice A s.brs.length c) ∧ w.cell? ⟨n, 1, none⟩ = some (.int .i64 0) ∧ w.cell? ⟨n, 2, none⟩ = some (.int .i64 0) ∧
  w.cell? ⟨n, 3, none⟩ = some (.int .i64 s.lbp) ∧ w.cell? ⟨n, 4, none⟩ = some (.int .i64 s.lmost) ∧ w.cell? ⟨n, 5, none⟩ = some (.int .i64 s.lleast)
theorem Box0.below {w w' : World} {n : Nat} {s : Sch} {A : Option Addr} {c : Nat} (h : Box0 w n s A c) (hn : n < w.heap.size) (hb : Below w.heap.size w w') : Box0 w' n s A c := by
  obtain ⟨h0, h1, h2, h3, h4, h5⟩ := h
  exact ⟨(hb.cell hn).trans h0, (hb.cell hn).trans h1, (hb.cell hn).trans h2, (hb.cell hn).trans h3, (hb.cell hn).trans h4, (hb.cell hn).trans h5⟩

theorem okS {s : Sch} {x : Int} (h : s.ok x = true) : s.right = true ∧ 0 ≤ x ∧ x ≤ 1125899906842624 := by
  unfold Sch.ok at h
  simp only [Bool.and_eq_true] at h
  exact ⟨h.1, moneyB_one.1 h.2⟩

set_option maxHeartbeats 1000000 in
theorem ratesRises_any (s : Sch) (A : Option Addr) (c : Nat) (a b : Int) (w : World) (hr : Row w w.heap.size A (brCells s.brs)) (hl : s.brs.length ≤ 9223372036854775807)
    (ha0 : -9223372036854775808 ≤ a) (ha1 : a ≤ 9223372036854775807) (hb0 : -9223372036854775808 ≤ b) (hb1 : b ≤ 9223372036854775807) :
    Calls Try.prog 3 #[schV s A c, .int .i64 a, .int .i64 b] w fun e w' => e = .returned (.bool true) ∧ Below w.heap.size w w' := by
  by_cases hL : 1000 < s.brs.length
  · unfold schV
    go_enter Try.func3, Try.ntmps3
    go_wp2_with (go_at_call 9; refine halted ?_)
    refine go_on ?_
    refine (awake_any _).mono ?_
    rintro e w1 ⟨rfl, hb1⟩
    rw [World.size_alloc] at hb1
    have hc := boxed_cells hb1
    have hbw : Below w.heap.size w w1 := ((Below.refl w.heap.size w).alloc (Nat.le_refl _) _).trans (hb1.mono (by simp))
    have c0 := hc.1
    clear hc
    go_wp2
    go_ret
    exact ⟨rfl, hbw⟩
  obtain ⟨l, h, hlh, hc⟩ : ∃ l h : Int, l ≤ h ∧ ((a < b ∧ l = a ∧ h = b) ∨ (b < a ∧ l = b ∧ h = a) ∨ (a = b ∧ l = a ∧ h = a)) := by
    by_cases hab : a < b
    · exact ⟨a, b, by omega, .inl ⟨hab, rfl, rfl⟩⟩
    · by_cases hba : b < a
      · exact ⟨b, a, by omega, .inr (.inl ⟨by omega, rfl, rfl⟩)⟩
      · exact ⟨a, a, by omega, .inr (.inr ⟨by omega, rfl, rfl⟩)⟩
  have hcall := fun (x : Int) (w0 : World) (h0 : Below w.heap.size w w0) => tax_any s A c x w0 ((hr.below h0).more h0.size) hl
  have HC := hide hcall
  clear hcall
  by_cases hok : s.ok l = true ∧ s.ok h = true
  · have o1 := okS hok.1
    have o2 := okS hok.2
    obtain ⟨t1, t2, t3, t4, t5⟩ := tax_rises o1.1 o1.2.1 hlh
    have H1 := hide (taxR_ok hok.1)
    have H2 := hide (taxR_ok hok.2)
    have l1 := o1.2.1
    have l2 := o2.2.2
    clear o1 o2 hok
    generalize s.tax l = x at *
    generalize s.tax h = y at *
    have t6 : h ≤ l → x = y := by omega
    rcases hc with ⟨hab, rfl, rfl⟩ | ⟨hab, rfl, rfl⟩ | ⟨rfl, rfl, rfl⟩
    all_goals (first | (obtain rfl := t6 (Int.le_refl _)) | skip)
    all_goals clear t6
    all_goals
      unfold schV at *
      go_enter Try.func3, Try.ntmps3
      go_wp2_with (go_at_call 9; refine halted ?_)
      refine go_on ?_
      refine (awake_any _).mono ?_
      rintro e w1 ⟨rfl, hb1⟩
      rw [World.size_alloc] at hb1
      have hc1 := boxed_cells hb1
      have hbw : Below w.heap.size w w1 := ((Below.refl w.heap.size w).alloc (Nat.le_refl _) _).trans (hb1.mono (by simp))
      obtain ⟨c0, c1, c2, c3, c4, c5⟩ := hc1
      go_wp2_with (go_at_call 10; refine halted ?_)
      refine go_on ?_
      refine (HC.out _ _ hbw).mono ?_
      rw [H1.out]
      rintro e w2 ⟨rfl, hb2⟩
      have hb12 := hb1.trans (hb2.mono (by have := hb1.size; simpa using this))
      have hbw2 := hbw.trans (hb2.mono hbw.size)
      clear c0 c1 c2 c3 c4 c5 hb1 hb2 hbw
      obtain ⟨c0, c1, c2, c3, c4, c5⟩ := boxed_cells hb12
      go_wp2_with (go_at_call 10; refine halted ?_)
      refine go_on ?_
      refine (HC.out _ _ hbw2).mono ?_
      rw [H2.out]
      rintro e w3 ⟨rfl, hb3⟩
      have hbw3 := hbw2.trans (hb3.mono hbw2.size)
      clear c0 c1 c2 c3 c4 c5 hb12 hb3 hbw2
      go_wp2
      go_ret
      exact ⟨rfl, hbw3⟩
  · have hno : s.ok l = false ∨ s.ok l = true ∧ s.ok h = false := by
      cases h1 : s.ok l <;> cases h2 : s.ok h <;> simp_all
    clear hok
    have key : ∃ x y e f : Int, Hid (taxR s l = (x, e)) ∧ Hid (taxR s h = (y, f)) ∧ ((e = 1) ∨ (e = 0 ∧ f = 1)) := by
      rcases hno with h1 | ⟨h1, h2⟩
      · exact ⟨_, _, _, _, taxR_no h1, rfl, .inl rfl⟩
      · exact ⟨_, _, _, _, taxR_ok h1, taxR_no h2, .inr ⟨rfl, rfl⟩⟩
    obtain ⟨x, y, e, f, H1, H2, hef⟩ := key
    clear hno
    rcases hc with ⟨hab, rfl, rfl⟩ | ⟨hab, rfl, rfl⟩ | ⟨rfl, rfl, rfl⟩
    all_goals
      rcases hef with rfl | ⟨rfl, rfl⟩
    all_goals
      unfold schV at *
      go_enter Try.func3, Try.ntmps3
      go_wp2_with (go_at_call 9; refine halted ?_)
      refine go_on ?_
      refine (awake_any _).mono ?_
      rintro e w1 ⟨rfl, hb1⟩
      rw [World.size_alloc] at hb1
      have hc1 := boxed_cells hb1
      have hbw : Below w.heap.size w w1 := ((Below.refl w.heap.size w).alloc (Nat.le_refl _) _).trans (hb1.mono (by simp))
      obtain ⟨c0, c1, c2, c3, c4, c5⟩ := hc1
      go_wp2_with (go_at_call 10; refine halted ?_)
      refine go_on ?_
      refine (HC.out _ _ hbw).mono ?_
      rw [H1.out]
      rintro e w2 ⟨rfl, hb2⟩
      have hb12 := hb1.trans (hb2.mono (by have := hb1.size; simpa using this))
      have hbw2 := hbw.trans (hb2.mono hbw.size)
      clear c0 c1 c2 c3 c4 c5 hb1 hb2 hbw
      obtain ⟨c0, c1, c2, c3, c4, c5⟩ := boxed_cells hb12
      go_wp2_with (go_at_call 10; refine halted ?_)
      refine go_on ?_
      refine (HC.out _ _ hbw2).mono ?_
      rw [H2.out]
      rintro e w3 ⟨rfl, hb3⟩
      have hbw3 := hbw2.trans (hb3.mono hbw2.size)
      clear c0 c1 c2 c3 c4 c5 hb12 hb3 hbw2
      go_wp2
      go_ret
      exact ⟨rfl, hbw3⟩

theorem Row.bracketAt {w : World} {B : Nat} {ad : Addr} {brs : List (Int × Int)} (h : Row w B (some ad) (brCells brs)) {k : Nat} (hk : k < brs.length) :
    ad.block < B ∧ ∃ f p, Hid (brs[k]? = some (f, p)) ∧ w.cell? ⟨(ad.add (k * 2)).block, (ad.add (k * 2)).off + 1, none⟩ = some (.int .i64 p) := by
  obtain ⟨ad', f, p, hA, hb, hk, _, hc⟩ := h.bracket hk
  injection hA with hA
  subst hA
  exact ⟨hb, f, p, hk, hc⟩

/-- Do the rates rise, as far as looked at? -/
theorem rising_of {brs : List (Int × Int)} (h : ∀ k f p f' p', brs[k]? = some (f, p) → brs[k + 1]? = some (f', p') → p ≤ p') : rising brs := by
  induction brs with
  | nil => trivial
  | cons b r ih =>
    cases r with
    | nil => trivial
    | cons c t =>
      refine ⟨h 0 b.1 b.2 c.1 c.2 rfl rfl, ih fun k f p f' p' h1 h2 => h (k + 1) f p f' p' ?_ ?_⟩
      · simpa using h1
      · simpa using h2

set_option maxHeartbeats 1000000 in
theorem ratesJoins_any (s : Sch) (A : Option Addr) (c : Nat) (a b : Int) (w : World) (hr : Row w w.heap.size A (brCells s.brs)) (hl : s.brs.length ≤ 9223372036854775807)
    (ha0 : -9223372036854775808 ≤ a) (ha1 : a ≤ 9223372036854775807) (hb0 : -9223372036854775808 ≤ b) (hb1 : b ≤ 9223372036854775807) :
    Calls Try.prog 4 #[schV s A c, .int .i64 a, .int .i64 b] w fun e w' => e = .returned (.bool true) ∧ Below w.heap.size w w' := by
  have hright := fun (w0 : World) (h0 : Below w.heap.size w w0) => right_any s A c w0 ((hr.below h0).more h0.size) hl
  have HRt := hide hright
  clear hright
  have hways : (s.right = true ∧ 0 ≤ a ∧ 0 ≤ b ∧ a ≤ 562949953421312 ∧ b ≤ 562949953421312) ∨ s.right = false ∨ (s.right = true ∧ a < 0) ∨ (s.right = true ∧ 0 ≤ a ∧ b < 0) ∨ (s.right = true ∧ 0 ≤ a ∧ 0 ≤ b ∧ 562949953421312 < a) ∨ (s.right = true ∧ 0 ≤ a ∧ 0 ≤ b ∧ a ≤ 562949953421312 ∧ 562949953421312 < b) := by
    cases hR : s.right
    · exact .inr (.inl rfl)
    · simp only [true_and, Bool.true_eq_false, false_or]; omega
  rcases hways with ⟨hR, a1, b1, a2, b2⟩ | hR | ⟨hR, a1⟩ | ⟨hR, a1, b1⟩ | ⟨hR, a1, b1, a2⟩ | ⟨hR, a1, b1, a2, b2⟩
  rotate_left
  iterate 5
    · have HR := hide hR
      clear hR
      unfold schV at *
      go_enter Try.func4, Try.ntmps4
      go_wp2_with (go_at_call 9; refine halted ?_)
      refine go_on ?_
      refine (awake_any _).mono ?_
      rintro e w1 ⟨rfl, hb1⟩
      rw [World.size_alloc] at hb1
      have hc1 := boxed_cells hb1
      have hbw : Below w.heap.size w w1 := ((Below.refl w.heap.size w).alloc (Nat.le_refl _) _).trans (hb1.mono (by simp))
      obtain ⟨c0, c1, c2, c3, c4, c5⟩ := hc1
      go_wp2_with (go_at_call 11; refine halted ?_)
      refine go_on ?_
      refine (HRt.out _ hbw).mono ?_
      rw [HR.out]
      rintro e w2 ⟨rfl, hb2⟩
      have hbw2 := hbw.trans (hb2.mono hbw.size)
      clear c0 c1 c2 c3 c4 c5
      go_wp2_with fail
      go_ret
      exact ⟨rfl, hbw2⟩
  obtain ⟨_, _, _, _, hlen10, hlen1⟩ := right_ded hR |> fun h => (⟨h.1, h.2.1, h.2.2.1, h.2.2.2.1, h.2.2.2.2.2.1, h.2.2.2.2.2.2⟩ : _ ∧ _ ∧ _ ∧ _ ∧ _ ∧ _)
  have HR := hide hR
  have hcall := fun (x : Int) (w0 : World) (h0 : Below w.heap.size w w0) => tax_any { s with ded := 0, cred := 0 } A c x w0 ((hr.below h0).more h0.size) hl
  have HC := hide hcall
  clear hcall
  have hright0 : Sch.right { s with ded := 0, cred := 0 } = true := by
    have h := hR
    unfold Sch.right at h ⊢
    simp only [Bool.and_eq_true] at h ⊢
    have h1 := moneyB_three.1 h.2
    exact ⟨h.1, moneyB_three.2 ⟨by omega, by omega, h1.2.2⟩⟩
  have hok0 : ∀ x : Int, 0 ≤ x → x ≤ 1125899906842624 → Sch.ok { s with ded := 0, cred := 0 } x = true := fun x h0 h1 => by
    unfold Sch.ok
    rw [hright0, moneyB_one.2 ⟨h0, h1⟩]
    rfl
  have HO := hide hok0
  have HR0 := hide hright0
  clear hR hok0 hright0
  unfold schV at *
  go_enter Try.func4, Try.ntmps4
  go_wp2_with (go_at_call 9; refine halted ?_)
  refine go_on ?_
  refine (awake_any _).mono ?_
  rintro e w1 ⟨rfl, hb1⟩
  rw [World.size_alloc] at hb1
  have hc1 := boxed_cells hb1
  have hbw : Below w.heap.size w w1 := ((Below.refl w.heap.size w).alloc (Nat.le_refl _) _).trans (hb1.mono (by simp))
  obtain ⟨c0, c1, c2, c3, c4, c5⟩ := hc1
  go_wp2_with (go_at_call 11; refine halted ?_)
  refine go_on ?_
  refine (HRt.out _ hbw).mono ?_
  rw [HR.out]
  rintro e w2 ⟨rfl, hb2⟩
  have hb12 := hb1.trans (hb2.mono (by have := hb1.size; simpa using this))
  have hbw2 := hbw.trans (hb2.mono hbw.size)
  clear c0 c1 c2 c3 c4 c5 hb1 hb2 hbw
  obtain ⟨c0, c1, c2, c3, c4, c5⟩ := boxed_cells hb12
  have hfr : w2.frozen? ⟨w.heap.size, 1, none⟩ = false := by
    rw [hb12.frozen (p := ⟨w.heap.size, 1, none⟩) (by simp)]; simp
  have hfr2 : w2.frozen? ⟨w.heap.size, 2, none⟩ = false := by
    rw [hb12.frozen (p := ⟨w.heap.size, 2, none⟩) (by simp)]; simp
  go_wp2
  have hb3 : Below w.heap.size w ((w2.setCell ⟨w.heap.size, 1, none⟩ (.int .i64 0)).setCell ⟨w.heap.size, 2, none⟩ (.int .i64 0)) :=
    (hbw2.setCell (p := ⟨w.heap.size, 1, none⟩) (Nat.le_refl _) _).setCell (p := ⟨w.heap.size, 2, none⟩) (Nat.le_refl _) _
  have d0 : ((w2.setCell ⟨w.heap.size, 1, none⟩ (.int .i64 0)).setCell ⟨w.heap.size, 2, none⟩ (.int .i64 0)).cell? ⟨w.heap.size, 0, none⟩ = some (.slice A s.brs.length c) := by
    rw [World.cell?_setCell_other _ _ _ _ (by simp), World.cell?_setCell_other _ _ _ _ (by simp)]; exact c0
  have d1 : ((w2.setCell ⟨w.heap.size, 1, none⟩ (.int .i64 0)).setCell ⟨w.heap.size, 2, none⟩ (.int .i64 0)).cell? ⟨w.heap.size, 1, none⟩ = some (.int .i64 0) := by
    rw [World.cell?_setCell_other _ _ _ _ (by simp)]; exact World.cell?_setCell_same' _ _ _ (by rw [c1]; rfl)
  have d2 : ((w2.setCell ⟨w.heap.size, 1, none⟩ (.int .i64 0)).setCell ⟨w.heap.size, 2, none⟩ (.int .i64 0)).cell? ⟨w.heap.size, 2, none⟩ = some (.int .i64 0) :=
    World.cell?_setCell_same' _ _ _ (by rw [World.cell?_setCell_other _ _ _ _ (by simp), c2]; rfl)
  have d3 : ((w2.setCell ⟨w.heap.size, 1, none⟩ (.int .i64 0)).setCell ⟨w.heap.size, 2, none⟩ (.int .i64 0)).cell? ⟨w.heap.size, 3, none⟩ = some (.int .i64 s.lbp) := by
    rw [World.cell?_setCell_other _ _ _ _ (by simp), World.cell?_setCell_other _ _ _ _ (by simp)]; exact c3
  have d4 : ((w2.setCell ⟨w.heap.size, 1, none⟩ (.int .i64 0)).setCell ⟨w.heap.size, 2, none⟩ (.int .i64 0)).cell? ⟨w.heap.size, 4, none⟩ = some (.int .i64 s.lmost) := by
    rw [World.cell?_setCell_other _ _ _ _ (by simp), World.cell?_setCell_other _ _ _ _ (by simp)]; exact c4
  have d5 : ((w2.setCell ⟨w.heap.size, 1, none⟩ (.int .i64 0)).setCell ⟨w.heap.size, 2, none⟩ (.int .i64 0)).cell? ⟨w.heap.size, 5, none⟩ = some (.int .i64 s.lleast) := by
    rw [World.cell?_setCell_other _ _ _ _ (by simp), World.cell?_setCell_other _ _ _ _ (by simp)]; exact c5
  have hsz : w.heap.size < ((w2.setCell ⟨w.heap.size, 1, none⟩ (.int .i64 0)).setCell ⟨w.heap.size, 2, none⟩ (.int .i64 0)).heap.size := by
    have := hb12.size
    simp [World.setCell] at this ⊢
    omega
  have hr3 : Row ((w2.setCell ⟨w.heap.size, 1, none⟩ (.int .i64 0)).setCell ⟨w.heap.size, 2, none⟩ (.int .i64 0)) w.heap.size A (brCells s.brs) := hr.below hb3
  generalize (w2.setCell ⟨w.heap.size, 1, none⟩ (.int .i64 0)).setCell ⟨w.heap.size, 2, none⟩ (.int .i64 0) = w3 at *
  clear c0 c1 c2 c3 c4 c5 hfr hfr2 hb12 hbw2 hr
  go_loopw [9] (fun i wr => ∃ (k nq : Nat), 1 ≤ k ∧ k ≤ s.brs.length ∧ i = .int .i64 (k : Int) ∧ wr = w3.drewN nq ∧ Hid (∀ j f p f' p', j + 1 < k → s.brs[j]? = some (f, p) → s.brs[j + 1]? = some (f', p') → p ≤ p')) (fun i _ => s.brs.length - (intOf i).toNat)
  case atStart => exact ⟨1, 0, by omega, hlen1, rfl, rfl, fun j f p f' p' h => by omega⟩
  case round =>
    obtain ⟨k, nq, hk1, hk, rfl, rfl, HJ⟩ := hrel
    by_cases hlt : k < s.brs.length
    · obtain ⟨ad, f, p, rfl, hadb, hbk, _, hc1⟩ := hr3.bracket hlt
      obtain ⟨_, f0, p0, hbk0, hc0⟩ := Row.bracketAt hr3 (k := k - 1) (by omega)
      by_cases hp : p < p0
      · go_wp2
        go_quiet (fail)
        go_wp2
        go_ret
        exact ⟨rfl, below_drewN (below_drewN hb3 _) _⟩
      · go_wp2
        go_quiet (fail)
        go_wp2
        go_roundw
        case rel =>
          refine ⟨k + 1, _, by omega, by omega, by go_num, rfl, ?_⟩
          intro j g q g' q' hj h1 h2
          by_cases hjk : j + 1 < k
          · exact HJ.out j g q g' q' hjk h1 h2
          · have ej : j = k - 1 := by omega
            subst ej
            have e2 : k - 1 + 1 = k := by omega
            rw [e2] at h2
            have q1 := hbk0.out.symm.trans h1
            have q2 := hbk.out.symm.trans h2
            simp only [Option.some.injEq, Prod.mk.injEq] at q1 q2
            omega
        case measure => simp [intOf]; omega
    · have hris : rising s.brs := rising_of fun j f p f' p' h1 h2 => HJ.out j f p f' p' (by have := lt_of_some h2; omega) h1 h2
      have hj := tax_joins (s := { s with ded := 0, cred := 0 }) HR0.out rfl rfl hris a1 b1
      have bd := fun (x : Int) (h : 0 ≤ x) => tax_rises (s := { s with ded := 0, cred := 0 }) HR0.out h (Int.le_refl x)
      have ta := bd a a1
      have tb := bd b b1
      have tab := bd (a + b) (by omega)
      have H1 := hide (taxR_ok (HO.out a a1 (by omega)))
      have H2 := hide (taxR_ok (HO.out b b1 (by omega)))
      have H3 := hide (taxR_ok (HO.out (a + b) (by omega) (by omega)))
      have ta0 := ta.1
      have ta1 := ta.2.1
      have tb0 := tb.1
      have tb1 := tb.2.1
      have tc0 := tab.1
      have tc1 := tab.2.1
      have HBx : Hid (Box0 w3 w.heap.size s A c) := ⟨d0, d1, d2, d3, d4, d5⟩
      clear bd ta tb tab hris
      generalize Sch.tax { s with ded := 0, cred := 0 } a = x at *
      generalize Sch.tax { s with ded := 0, cred := 0 } b = y at *
      generalize Sch.tax { s with ded := 0, cred := 0 } (a + b) = z at *
      have hb3' : Below w.heap.size w (w3.drewN nq) := below_drewN hb3 nq
      go_wp2_with (go_at_call 10; refine halted ?_)
      refine go_on ?_
      refine (HC.out a _ hb3').mono ?_
      rw [H1.out]
      rintro e w4 ⟨rfl, hb4⟩
      have hbw4 := hb3'.trans (hb4.mono hb3'.size)
      have hx4 : Box0 w4 w.heap.size s A c := Box0.below (w := w3.drewN nq) HBx.out hsz hb4
      have hs4 : w.heap.size < w4.heap.size := Nat.lt_of_lt_of_le hsz hb4.size
      have HX4 := hide hx4
      clear d0 d1 d2 d3 d4 d5 hb4 hsz hb3 hb3' hr3 HBx
      obtain ⟨d0, d1, d2, d3, d4, d5⟩ := hx4
      go_wp2_with (go_at_call 10; refine halted ?_)
      refine go_on ?_
      refine (HC.out b _ hbw4).mono ?_
      rw [H2.out]
      rintro e w5 ⟨rfl, hb5⟩
      have hbw5 := hbw4.trans (hb5.mono hbw4.size)
      have hx5 : Box0 w5 w.heap.size s A c := HX4.out.below hs4 hb5
      clear d0 d1 d2 d3 d4 d5 hb5 hbw4 HX4 hs4
      obtain ⟨d0, d1, d2, d3, d4, d5⟩ := hx5
      go_wp2_with (go_at_call 10; refine halted ?_)
      refine go_on ?_
      refine (HC.out (a + b) _ hbw5).mono ?_
      rw [H3.out]
      rintro e w6 ⟨rfl, hb6⟩
      have hbw6 := hbw5.trans (hb6.mono hbw5.size)
      clear d0 d1 d2 d3 d4 d5 hb6 hbw5
      go_wp2
      go_ret
      exact ⟨rfl, hbw6⟩
end Go.Proofs.Ytedaajilmeplnaa
