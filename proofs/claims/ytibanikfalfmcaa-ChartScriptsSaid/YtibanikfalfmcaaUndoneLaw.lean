/-
  A posting undone, in plain words.
-/
import Derived.Test.YtibanikfalfmcaaRevC
namespace Go.Proofs.Ytibanikfalfmcaa
open Go.RowKit
set_option linter.unusedVariables false

theorem amt_neg (m : Int) : amt (-m) = amt m := by
  rw [Bool.eq_iff_iff, amt_iff, amt_iff]
  omega
theorem legsOk_neg (seen : List Int) (ls : List (Int × Int)) : legsOk seen (negL ls) = legsOk seen ls := by
  induction ls generalizing seen with
  | nil => rfl
  | cons x r ih =>
    show (legOk seen (x.1, -x.2) && legsOk (seen ++ [x.1]) (negL r)) = (legOk seen x && legsOk (seen ++ [x.1]) r)
    rw [ih]
    unfold legOk
    dsimp only
    rw [amt_neg, show decide (-x.2 = 0) = decide (x.2 = 0) from by rw [decide_eq_decide]; omega]
theorem negL_len (ls : List (Int × Int)) : (negL ls).length = ls.length := by unfold negL; simp
theorem right_neg {day d2 : Int} {tl : Nat} {ls : List (Int × Int)} (h : rightE day tl ls = true) (hd : dayOk d2 = true) : rightE d2 tl (negL ls) = true := by
  unfold rightE at h ⊢
  rw [legsOk_neg, negL_len, hd]
  simp only [Bool.and_eq_true] at h ⊢
  exact ⟨⟨⟨⟨h.1.1.1.1, trivial⟩, h.1.1.2⟩, h.1.2⟩, h.2⟩
theorem legSum_neg (ls : List (Int × Int)) (n : Int) : legSum (negL ls) n = -legSum ls n := by
  induction ls with
  | nil => rfl
  | cons x r ih =>
    show (if x.1 = n then -x.2 else 0) + legSum (negL r) n = -((if x.1 = n then x.2 else 0) + legSum r n)
    rw [ih]
    split <;> omega
theorem sum_neg (ls : List (Int × Int)) : ((negL ls).map (·.2)).sum = -(ls.map (·.2)).sum := by
  induction ls with
  | nil => rfl
  | cons x r ih =>
    show -x.2 + ((negL r).map (·.2)).sum = -(x.2 + (r.map (·.2)).sum)
    rw [ih]
    omega
theorem balB_neg {ls : List (Int × Int)} (h : balB ls = true) : balB (negL ls) = true := by
  have hs := balB_sum h
  have hn := sum_neg ls
  rw [hs] at hn
  unfold balB at h ⊢
  rw [Bool.and_eq_true, decide_eq_true_eq, decide_eq_true_eq] at h
  obtain ⟨h1, h2⟩ := h
  unfold sumE at h1
  split at h1
  · rename_i h3
    have h4 : (amts ls).all amt = true := h3
    have h5 : ((negL ls).map (·.2)).all amt = true := by
      rw [List.all_eq_true] at h3 ⊢
      intro y hy
      unfold negL at hy
      rw [List.map_map, List.mem_map] at hy
      obtain ⟨x, hx, rfl⟩ := hy
      show amt (-x.2) = true
      rw [amt_neg]
      exact h3 _ (List.mem_map_of_mem hx)
    unfold sumE
    rw [if_pos h5, hn]
    decide
  · simp at h1
theorem seen_out {seen : List Int} {ls : List (Int × Int)} (h : legsOk seen ls = true) {n : Int} (hn : n ∈ seen) : legSum ls n = 0 := by
  induction ls generalizing seen with
  | nil => rfl
  | cons x r ih =>
    unfold legsOk at h
    rw [Bool.and_eq_true] at h
    have h1 := legOk_seen h.1
    have h2 := ih h.2 (List.mem_append_left _ hn)
    show (if x.1 = n then x.2 else 0) + legSum r n = 0
    have h3 : ¬ x.1 = n := fun e => h1 (by rw [e]; exact hn)
    rw [h2, if_neg h3]
    rfl
theorem legsOk_nz {seen : List Int} {ls : List (Int × Int)} (h : legsOk seen ls = true) : ∀ x ∈ ls, x.2 ≠ 0 := by
  induction ls generalizing seen with
  | nil => intro x hx; cases hx
  | cons y r ih =>
    unfold legsOk at h
    rw [Bool.and_eq_true] at h
    intro x hx
    rcases List.mem_cons.1 hx with rfl | hx
    · have h1 := h.1
      unfold legOk at h1
      simp only [Bool.and_eq_true, Bool.not_eq_true', decide_eq_false_iff_not] at h1
      exact h1.1.2
    · exact ih h.2 x hx
theorem legSum_mem {seen : List Int} {ls : List (Int × Int)} (h : legsOk seen ls = true) {x : Int × Int} (hx : x ∈ ls) : legSum ls x.1 = x.2 := by
  induction ls generalizing seen with
  | nil => cases hx
  | cons y r ih =>
    unfold legsOk at h
    rw [Bool.and_eq_true] at h
    show (if y.1 = x.1 then y.2 else 0) + legSum r x.1 = x.2
    rcases List.mem_cons.1 hx with rfl | hx
    · rw [if_pos rfl, seen_out h.2 (List.mem_append_right _ (List.mem_singleton.2 rfl))]
      omega
    · have h2 := ih h.2 hx
      by_cases e : y.1 = x.1
      · have := seen_out h.2 (n := x.1) (List.mem_append_right _ (List.mem_singleton.2 e.symm))
        rw [if_pos e]
        have h3 := h.1
        exfalso
        have hz : x.2 = 0 := by omega
        have h4 := legsOk_nz h.2 x hx
        exact h4 hz
      · rw [if_neg e, h2]
        omega
theorem legsE_of {l : Acs} {ls : List (Int × Int)} (h : ∀ x ∈ ls, ∃ a, aFind l x.1 = some a ∧ (addE a.2 x.2).2 = 0) : legsE l false ls = 0 := by
  induction ls with
  | nil => rfl
  | cons x r ih =>
    obtain ⟨a, ha, h2⟩ := h x (List.mem_cons_self ..)
    unfold legsE
    rw [ha]
    dsimp only
    rw [decide_eq_true h2]
    exact ih fun y hy => h y (List.mem_cons_of_mem _ hy)
theorem legsE_mem {l : Acs} {ls : List (Int × Int)} (h : legsE l false ls = 0) : ∀ x ∈ ls, ∃ a, aFind l x.1 = some a ∧ (addE a.2 x.2).2 = 0 := by
  induction ls with
  | nil => intro x hx; cases hx
  | cons y r ih =>
    obtain ⟨a, ha, h2, hr⟩ := legsE_cons h
    intro x hx
    rcases List.mem_cons.1 hx with rfl | hx
    · exact ⟨a, ha, h2⟩
    · exact ih hr x hx
/-- What was posted is posted back. -/
theorem undone_check {l : Acs} {day d2 : Int} {tl : Nat} {ls : List (Int × Int)} (h : checkE l day tl ls = 0) (hd : dayOk d2 = true) : checkE (postL l ls) d2 tl (negL ls) = 0 := by
  obtain ⟨h1, h2, h3⟩ := check_parts h
  unfold checkE
  rw [right_neg h1 hd, balB_neg h2]
  show legsE (postL l ls) false (negL ls) = 0
  refine legsE_of fun y hy => ?_
  unfold negL at hy
  obtain ⟨x, hx, rfl⟩ := List.mem_map.1 hy
  obtain ⟨a, ha, h4⟩ := legsE_mem h3 x hx
  obtain ⟨b1, b2, b3⟩ := addE_ok h4
  have hs := legSum_mem (right_legs h1) hx
  refine ⟨(a.1, a.2 + legSum ls x.1), by rw [post_find h, ha]; rfl, ?_⟩
  dsimp only
  rw [hs]
  exact addE_of b3 (by rw [amt_neg]; exact b2) (by rw [show a.2 + x.2 + -x.2 = a.2 by omega]; exact b1)
theorem undone_find {l : Acs} {day d2 : Int} {tl : Nat} {ls : List (Int × Int)} (h : checkE l day tl ls = 0) (hd : dayOk d2 = true) (n : Int) : aFind (postL (postL l ls) (negL ls)) n = aFind l n := by
  rw [post_find (undone_check h hd), post_find h, legSum_neg]
  cases aFind l n with
  | none => rfl
  | some a =>
    show some (a.1, a.2 + legSum ls n + -legSum ls n) = some a
    rw [show a.2 + legSum ls n + -legSum ls n = a.2 by omega]
theorem undone_bal {l : Acs} {day d2 : Int} {tl : Nat} {ls : List (Int × Int)} (h : checkE l day tl ls = 0) (hd : dayOk d2 = true) (n : Int) : balE (postL (postL l ls) (negL ls)) n = balE l n := by
  unfold balE
  rw [undone_find h hd]
end Go.Proofs.Ytibanikfalfmcaa
