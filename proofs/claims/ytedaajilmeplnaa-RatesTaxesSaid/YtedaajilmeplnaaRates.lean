/-
  rates.money, Right, taxed, Tax: what they compute.
-/
import Derived.Test.YtedaajilmeplnaaBase
import Derived.Test.YtedaajilmeplnaaRatesMath
namespace Go.Proofs.Ytedaajilmeplnaa
open Go.RowKit
set_option linter.unusedVariables false

theorem money_any (A : Option Addr) (B c : Nat) (xs : List Int) (w : World) (hr : Row w B A (xs.map (Value.int .i64))) (hl : xs.length ≤ 100) :
    Calls Try.prog 22 #[.slice A xs.length c] w fun e w' => e = .returned (.bool (moneyB xs)) ∧ w = w' := by
  go_enter Try.func22, Try.ntmps22
  go_wp2
  go_loop [7] (fun i => ∃ k : Nat, k ≤ xs.length ∧ i = .int .i64 (k : Int) ∧ ∀ x ∈ xs.take k, 0 ≤ x ∧ x ≤ 1125899906842624) (fun i => xs.length - (intOf i).toNat)
  case atStart => exact ⟨0, Nat.zero_le _, rfl, by simp⟩
  case round =>
    obtain ⟨k, hk, rfl, hall⟩ := hrel
    have H := hide hall
    clear hall
    by_cases hlt : k < xs.length
    · obtain ⟨ad, u, rfl, _, hu, hc⟩ := hr.at_ (k := k) (by simpa using hlt)
      obtain ⟨x, rfl, hxk⟩ : ∃ x, u = .int .i64 x ∧ Hid (xs[k]? = some x) := by
        have h1 := hu.out
        rw [List.getElem?_map, List.getElem?_eq_getElem hlt] at h1
        simp only [Option.map_some, Option.some.injEq] at h1
        exact ⟨xs[k], h1.symm, List.getElem?_eq_getElem hlt⟩
      clear hu hr
      by_cases hp : 0 ≤ x ∧ x ≤ 1125899906842624
      · have hp1 := hp.1
        have hp2 := hp.2
        have HP := hide hp
        clear hp
        go_wp2
        go_round
        case rel => exact ⟨k + 1, by omega, by go_num, by
          rw [take_next hxk.out]
          intro y hy
          rcases List.mem_append.1 hy with h | h
          · exact H.out y h
          · rw [List.mem_singleton.1 h]; exact HP.out⟩
        case measure => simp [intOf]; omega
      · have hf : moneyB xs = false := by
          unfold moneyB
          rw [List.all_eq_false]
          exact ⟨x, List.mem_of_getElem? hxk.out, by simp; omega⟩
        have Hf := hide hf
        clear hf
        by_cases hn : x < 0
        · clear hp
          go_wp2
          go_ret
          exact ⟨by rw [Hf.out]; rfl, rfl⟩
        · have hn2 : 1125899906842624 < x := by omega
          clear hp
          go_wp2
          go_ret
          exact ⟨by rw [Hf.out]; rfl, rfl⟩
    · have hf : moneyB xs = true := by
        unfold moneyB
        rw [List.all_eq_true]
        intro x hxx
        have := H.out
        rw [List.take_of_length_le (by omega)] at this
        simpa using this x hxx
      have Hf := hide hf
      clear hf hr
      go_wp2
      go_ret
      exact ⟨by rw [Hf.out]; rfl, rfl⟩

/-- Brackets as the model's cells. -/
def brCells (brs : List (Int × Int)) : List Value := brs.flatMap fun b => [.int .i64 b.1, .int .i64 b.2]
/-- A schedule as a value, its brackets' slice at A. -/
def schV (s : Sch) (A : Option Addr) (c : Nat) : Value := .agg #[.slice A s.brs.length c, .int .i64 s.ded, .int .i64 s.cred, .int .i64 s.lbp, .int .i64 s.lmost, .int .i64 s.lleast]

/-- What of a schedule's numbers is known: they fit. -/
structure Fits (s : Sch) : Prop where
  ded : -9223372036854775808 ≤ s.ded ∧ s.ded ≤ 9223372036854775807
  cred : -9223372036854775808 ≤ s.cred ∧ s.cred ≤ 9223372036854775807

theorem brCells_at {brs : List (Int × Int)} {k : Nat} {b : Int × Int} (h : brs[k]? = some b) : (brCells brs)[k * 2]? = some (.int .i64 b.1) ∧ (brCells brs)[k * 2 + 1]? = some (.int .i64 b.2) := by
  induction brs generalizing k with
  | nil => simp at h
  | cons a r ih =>
    cases k with
    | zero =>
      simp only [List.getElem?_cons_zero, Option.some.injEq] at h
      subst h
      exact ⟨rfl, rfl⟩
    | succ k =>
      simp only [List.getElem?_cons_succ] at h
      have := ih h
      have e1 : (k + 1) * 2 = k * 2 + 2 := by omega
      rw [e1]
      exact this

/-- The two cells of a bracket. -/
theorem Row.bracket {w : World} {B : Nat} {A : Option Addr} {brs : List (Int × Int)} (h : Row w B A (brCells brs)) {k : Nat} (hk : k < brs.length) :
    ∃ ad f p, A = some ad ∧ ad.block < B ∧ Hid (brs[k]? = some (f, p)) ∧ w.cell? (ad.add (k * 2)) = some (.int .i64 f) ∧ w.cell? ⟨(ad.add (k * 2)).block, (ad.add (k * 2)).off + 1, none⟩ = some (.int .i64 p) := by
  have hb := List.getElem?_eq_getElem hk
  obtain ⟨h1, h2⟩ := brCells_at hb
  obtain ⟨ad, hA, hlt, hc⟩ := h _ _ h1
  obtain ⟨ad', hA', _, hc'⟩ := h _ _ h2
  rw [hA] at hA'
  injection hA' with hA'
  subst hA'
  exact ⟨ad, brs[k].1, brs[k].2, hA, hlt, hb, hc, by rw [← add_add'] at hc'; exact hc'⟩

theorem brsOk_at {brs : List (Int × Int)} {k : Nat} {f p : Int} (h : brs[k]? = some (f, p)) (lv : Int) :
    brsOk lv (brs.drop k) = ((moneyB [f] && decide (lv < f) && decide (0 ≤ p) && decide (p ≤ 10000)) && brsOk f (brs.drop (k + 1))) := by
  have hk : k < brs.length := (List.getElem?_eq_some_iff.1 h).1
  have hx : brs[k] = (f, p) := (List.getElem?_eq_some_iff.1 h).2
  rw [List.drop_eq_getElem_cons hk, hx]
  rfl

theorem bracket_ways (f p lv : Int) : ((moneyB [f] && decide (lv < f) && decide (0 ≤ p) && decide (p ≤ 10000)) = true ∧ 0 ≤ f ∧ f ≤ 1125899906842624 ∧ lv < f ∧ 0 ≤ p ∧ p ≤ 10000) ∨
    ((moneyB [f] && decide (lv < f) && decide (0 ≤ p) && decide (p ≤ 10000)) = false ∧ moneyB [f] = false) ∨
    ((moneyB [f] && decide (lv < f) && decide (0 ≤ p) && decide (p ≤ 10000)) = false ∧ 0 ≤ f ∧ f ≤ 1125899906842624 ∧ f ≤ lv) ∨
    ((moneyB [f] && decide (lv < f) && decide (0 ≤ p) && decide (p ≤ 10000)) = false ∧ 0 ≤ f ∧ f ≤ 1125899906842624 ∧ lv < f ∧ p < 0) ∨
    ((moneyB [f] && decide (lv < f) && decide (0 ≤ p) && decide (p ≤ 10000)) = false ∧ 0 ≤ f ∧ f ≤ 1125899906842624 ∧ lv < f ∧ 0 ≤ p ∧ 10000 < p) := by
  by_cases hm : moneyB [f] = true
  · have h := moneyB_one.1 hm
    rw [hm]
    simp only [Bool.true_and]
    by_cases c1 : lv < f
    · by_cases c2 : 0 ≤ p
      · by_cases c3 : p ≤ 10000
        · exact .inl ⟨by simp [c1, c2, c3], h.1, h.2, c1, c2, c3⟩
        · exact .inr (.inr (.inr (.inr ⟨by simp [c3], h.1, h.2, c1, c2, by omega⟩)))
      · exact .inr (.inr (.inr (.inl ⟨by simp [c2], h.1, h.2, c1, by omega⟩)))
    · exact .inr (.inr (.inl ⟨by simp [c1], h.1, h.2, by omega⟩))
  · have hm' : moneyB [f] = false := by simpa using hm
    exact .inr (.inl ⟨by rw [hm']; rfl, hm'⟩)

theorem sizes_ways (s : Sch) : (s.sizes = true ∧ 1 ≤ s.brs.length ∧ s.brs.length ≤ 10 ∧ 0 ≤ s.lbp ∧ s.lbp ≤ 10000 ∧ 0 ≤ s.lmost ∧ s.lmost ≤ 60) ∨
    (s.right = false ∧ s.brs.length < 1) ∨ (s.right = false ∧ 1 ≤ s.brs.length ∧ 10 < s.brs.length) ∨ (s.right = false ∧ 1 ≤ s.brs.length ∧ s.brs.length ≤ 10 ∧ s.lbp < 0) ∨
    (s.right = false ∧ 1 ≤ s.brs.length ∧ s.brs.length ≤ 10 ∧ 0 ≤ s.lbp ∧ 10000 < s.lbp) ∨ (s.right = false ∧ 1 ≤ s.brs.length ∧ s.brs.length ≤ 10 ∧ 0 ≤ s.lbp ∧ s.lbp ≤ 10000 ∧ s.lmost < 0) ∨
    (s.right = false ∧ 1 ≤ s.brs.length ∧ s.brs.length ≤ 10 ∧ 0 ≤ s.lbp ∧ s.lbp ≤ 10000 ∧ 0 ≤ s.lmost ∧ 60 < s.lmost) := by
  have hf : s.sizes = false → s.right = false := fun h => by unfold Sch.right; rw [h]; rfl
  by_cases h : s.sizes = true
  · have h' := h
    unfold Sch.sizes at h'
    simp only [Bool.and_eq_true, decide_eq_true_eq] at h'
    exact .inl ⟨h, by omega⟩
  · have h0 : s.right = false := hf (by simpa using h)
    unfold Sch.sizes at h
    simp only [Bool.and_eq_true, decide_eq_true_eq] at h
    right
    by_cases c1 : s.brs.length < 1
    · exact .inl ⟨h0, c1⟩
    by_cases c2 : 10 < s.brs.length
    · exact .inr (.inl ⟨h0, by omega, c2⟩)
    by_cases c3 : s.lbp < 0
    · exact .inr (.inr (.inl ⟨h0, by omega, by omega, c3⟩))
    by_cases c4 : 10000 < s.lbp
    · exact .inr (.inr (.inr (.inl ⟨h0, by omega, by omega, by omega, c4⟩)))
    by_cases c5 : s.lmost < 0
    · exact .inr (.inr (.inr (.inr (.inl ⟨h0, by omega, by omega, by omega, by omega, c5⟩))))
    · exact .inr (.inr (.inr (.inr (.inr ⟨h0, by omega, by omega, by omega, by omega, by omega, by omega⟩))))

set_option maxHeartbeats 1000000 in
theorem right_any (s : Sch) (A : Option Addr) (c : Nat) (w : World) (hr : Row w w.heap.size A (brCells s.brs)) (hl : s.brs.length ≤ 9223372036854775807) :
    Calls Try.prog 11 #[schV s A c] w fun e w' => e = .returned (.bool s.right) ∧ Below w.heap.size w w' := by
  have hways := sizes_ways s
  have hrt : s.sizes = true → s.right = (brsOk (-1) s.brs && headZero s.brs && moneyB [s.ded, s.cred, s.lleast]) := fun h => by unfold Sch.right; rw [h, Bool.true_and]
  generalize s.right = R at *
  obtain ⟨brs, ded, cred, lbp, lmost, lleast⟩ := s
  unfold schV
  dsimp only at *
  rcases hways with ⟨hs, h1, h2, h3, h4, h5, h6⟩ | ⟨rfl, h1⟩ | ⟨rfl, h1, h2⟩ | ⟨rfl, h1, h2, h3⟩ | ⟨rfl, h1, h2, h3, h4⟩ | ⟨rfl, h1, h2, h3, h4, h5⟩ | ⟨rfl, h1, h2, h3, h4, h5, h6⟩
  rotate_left
  iterate 6
    · clear hrt
      go_enter Try.func11, Try.ntmps11
      go_wp2
      go_ret
      exact ⟨rfl, (Below.refl w.heap.size w).alloc (Nat.le_refl _) _⟩
  have HR := hide (hrt hs)
  clear hrt hs
  go_enter Try.func11, Try.ntmps11
  go_wp2
  go_loopw [3, 39] (fun l i wr => ∃ (k : Nat) (lv : Int), k ≤ brs.length ∧ i = .int .i64 (k : Int) ∧ l = .int .i64 lv ∧ -1 ≤ lv ∧ Hid (brsOk (-1) brs = brsOk lv (brs.drop k)) ∧
    Below (w.heap.size + 1) (w.alloc (.cells #[.slice A brs.length c, .int .i64 ded, .int .i64 cred, .int .i64 lbp, .int .i64 lmost, .int .i64 lleast] 24)) wr) (fun _ i _ => brs.length - (intOf i).toNat)
  case atStart => exact ⟨0, -1, Nat.zero_le _, rfl, rfl, by omega, rfl, Below.refl _ _⟩
  case round =>
    obtain ⟨k, lv, hk, rfl, rfl, hlv, HB, hbel⟩ := hrel
    by_cases hlt : k < brs.length
    · have hrr : Row wr w.heap.size A (brCells brs) := (hr.alloc (Nat.le_refl _) _).belowLe hbel (Nat.le_succ _)
      obtain ⟨ad, f, p, rfl, hadb, hb, hc1, hc2⟩ := hrr.bracket hlt
      clear hr hrr
      have hsp := brsOk_at hb.out lv
      have hlt1 : w.heap.size + 1 ≤ wr.heap.size := by have := hbel.size; simpa using this
      have hW1 : Below w.heap.size w wr := ((Below.refl w.heap.size w).alloc (Nat.le_refl _) _).trans (hbel.mono (Nat.le_succ _))
      have hN := Row.new (wr.alloc (.cells #[.int .i64 f, .int .i64 p] 32)) #[.int .i64 f] 2 (0, 0)
      rw [World.size_alloc] at hN
      have hfin : Below w.heap.size w ((wr.alloc (.cells #[.int .i64 f, .int .i64 p] 32)).alloc (.cells #[.int .i64 f] 2)) := (hW1.alloc (by omega) _).alloc (by simp; omega) _
      rcases bracket_ways f p lv with ⟨ho, m1, m2, m3, m4, m5⟩ | ⟨ho, hm⟩ | ⟨ho, m1, m2, m3⟩ | ⟨ho, m1, m2, m3, m4⟩ | ⟨ho, m1, m2, m3, m4, m5⟩
      · rw [ho, Bool.true_and] at hsp
        have HS := hide hsp
        have HM : Hid (moneyB [f] = true) := moneyB_one.2 ⟨m1, m2⟩
        clear hsp ho hfin
        go_wp2_with (go_at_call 22; refine halted ?_)
        refine go_on ?_
        refine (money_any _ _ 1 [f] _ hN (by simp)).mono ?_
        rw [HM.out]
        rintro e w' ⟨rfl, rfl⟩
        clear hN
        go_wp2_with fail
        go_roundw
        case rel => exact ⟨k + 1, f, by omega, by go_num, rfl, by omega, HB.out.trans HS.out, (hbel.alloc (by omega) _).alloc (by simp; omega) _⟩
        case measure => simp [intOf]; omega
      · have hR : R = false := by rw [HR.out, HB.out, hsp, ho]; rfl
        have HR' := hide hR
        have HM := hide hm
        clear hsp ho hm hR
        go_wp2_with (go_at_call 22; refine halted ?_)
        refine go_on ?_
        refine (money_any _ _ 1 [f] _ hN (by simp)).mono ?_
        rw [HM.out]
        rintro e w' ⟨rfl, rfl⟩
        clear hN
        go_wp2_with fail
        go_ret
        exact ⟨by rw [HR'.out]; rfl, hfin⟩
      all_goals
        have hR : R = false := by rw [HR.out, HB.out, hsp, ho]; rfl
        have HR' := hide hR
        have HM : Hid (moneyB [f] = true) := moneyB_one.2 ⟨m1, m2⟩
        clear hsp ho hR
        go_wp2_with (go_at_call 22; refine halted ?_)
        refine go_on ?_
        refine (money_any _ _ 1 [f] _ hN (by simp)).mono ?_
        rw [HM.out]
        rintro e w' ⟨rfl, rfl⟩
        clear hN
        go_wp2_with fail
        go_ret
        exact ⟨by rw [HR'.out]; rfl, hfin⟩
    · have hd : brs.drop k = [] := List.drop_eq_nil_of_le (by omega)
      have hrr : Row wr w.heap.size A (brCells brs) := (hr.alloc (Nat.le_refl _) _).belowLe hbel (Nat.le_succ _)
      obtain ⟨ad, f, p, rfl, hadb, hb, hc1, -⟩ := hrr.bracket (k := 0) (by omega)
      rw [Nat.zero_mul] at hc1
      have hc0 : wr.cell? ad = some (.int .i64 f) := hc1
      have hlt1 : w.heap.size + 1 ≤ wr.heap.size := by have := hbel.size; simpa using this
      have hW1 : Below w.heap.size w wr := ((Below.refl w.heap.size w).alloc (Nat.le_refl _) _).trans (hbel.mono (Nat.le_succ _))
      have hN := Row.new wr #[.int .i64 ded, .int .i64 cred, .int .i64 lleast] 2 (0, 0)
      have hx0 := hbel.cell (p := ⟨w.heap.size, 0, none⟩) (by simp)
      have hx1 := hbel.cell (p := ⟨w.heap.size, 1, none⟩) (by simp)
      have hx2 := hbel.cell (p := ⟨w.heap.size, 2, none⟩) (by simp)
      have hx5 := hbel.cell (p := ⟨w.heap.size, 5, none⟩) (by simp)
      simp at hx0 hx1 hx2 hx5
      have hz : headZero brs = decide (f = 0) := by
        have := hb.out
        cases brs with
        | nil => simp at this
        | cons b r => simp at this; subst this; rfl
      have hRe : R = (decide (f = 0) && moneyB [ded, cred, lleast]) := by
        rw [HR.out, HB.out, hd, hz]; simp [brsOk]
      have HRe := hide hRe
      clear hr hrr hc1 hz hRe hd
      by_cases hf : f = 0
      · subst hf
        have hRe : R = moneyB [ded, cred, lleast] := by rw [HRe.out]; simp
        have HRf := hide hRe
        clear hRe
        go_wp2_with (go_at_call 22; refine halted ?_)
        refine go_on ?_
        refine (money_any _ _ 3 [ded, cred, lleast] _ hN (by simp)).mono ?_
        rw [← HRf.out]
        rintro e w' ⟨rfl, rfl⟩
        clear hN
        go_wp2_with fail
        go_ret
        exact ⟨rfl, hW1.alloc (by omega) _⟩
      · have hfb : (f == 0) = false := by simpa using hf
        have hRe : R = false := by rw [HRe.out]; simp [hf]
        have HRf := hide hRe
        clear hRe hf
        go_wp2_with fail
        go_ret
        exact ⟨by rw [HRf.out]; rfl, hW1⟩
end Go.Proofs.Ytedaajilmeplnaa
