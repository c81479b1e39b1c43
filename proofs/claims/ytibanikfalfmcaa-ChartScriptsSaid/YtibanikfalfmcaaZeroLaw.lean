/-
  The balances sum to 0, in plain words.
-/
import Derived.Test.YtibanikfalfmcaaChartLaw
namespace Go.Proofs.Ytibanikfalfmcaa
open Go.RowKit
set_option linter.unusedVariables false

abbrev Rises (l : Acs) : Prop := l.Pairwise fun x y => x.1 < y.1
def total (l : Acs) : Int := (l.map (·.2.2)).sum
theorem legs_found {l : Acs} {ls : List (Int × Int)} (h : legsE l false ls = 0) : ∀ x ∈ ls, ∃ a, aFind l x.1 = some a := by
  induction ls with
  | nil => intro x hx; cases hx
  | cons y r ih =>
    obtain ⟨a, ha, _, hr⟩ := legsE_cons h
    intro x hx
    rcases List.mem_cons.1 hx with rfl | hx
    · exact ⟨a, ha⟩
    · exact ih hr x hx
theorem legSum_none {l : Acs} {ls : List (Int × Int)} (h : ∀ x ∈ ls, ∃ a, aFind l x.1 = some a) {n : Int} (hn : aFind l n = none) : legSum ls n = 0 := by
  induction ls with
  | nil => rfl
  | cons y r ih =>
    unfold legSum
    rw [ih fun x hx => h x (List.mem_cons_of_mem _ hx), if_neg]
    · rfl
    · intro e
      obtain ⟨a, ha⟩ := h y (List.mem_cons_self ..)
      rw [e, hn] at ha
      cases ha
theorem legSum_take {ls : List (Int × Int)} {k : Nat} {x : Int × Int} (h : ls[k]? = some x) (n : Int) : legSum (ls.take (k + 1)) n = legSum (ls.take k) n + (if x.1 = n then x.2 else 0) := by
  rw [take_next h]
  generalize ls.take k = l
  induction l with
  | nil => simp [legSum]
  | cons y r ih =>
    show (if y.1 = n then y.2 else 0) + legSum (r ++ [x]) n = (if y.1 = n then y.2 else 0) + legSum r n + _
    rw [ih]; omega
theorem legsOk_amt {ls : List (Int × Int)} {seen : List Int} (h : legsOk seen ls = true) : ∀ x ∈ ls, amt x.2 = true := by
  induction ls generalizing seen with
  | nil => intro x hx; cases hx
  | cons y r ih =>
    unfold legsOk at h
    rw [Bool.and_eq_true] at h
    intro x hx
    rcases List.mem_cons.1 hx with rfl | hx
    · have := h.1
      unfold legOk at this
      simp only [Bool.and_eq_true] at this
      exact this.2
    · exact ih h.2 x hx
theorem legSum_le {ls : List (Int × Int)} (h : ∀ x ∈ ls, amt x.2 = true) (n : Int) : -(4611686018427387904 * (ls.length : Int)) ≤ legSum ls n ∧ legSum ls n ≤ 4611686018427387904 * (ls.length : Int) := by
  induction ls with
  | nil => simp [legSum]
  | cons y r ih =>
    have h1 := ih fun x hx => h x (List.mem_cons_of_mem _ hx)
    have h2 := (amt_iff _).1 (h y (List.mem_cons_self ..))
    unfold legSum
    rw [List.length_cons]
    split <;> omega
/-- What sums of legs know of a chart. -/
structure Inv (l : Acs) (S : Int → Int) : Prop where
  there : ∀ n a, aFind l n = some a → a.2 = S n
  gone : ∀ n, aFind l n = none → S n = 0
theorem Inv.nil : Inv [] (fun _ => 0) := ⟨fun n a h => by simp [aFind] at h, fun _ _ => rfl⟩
theorem Inv.post {l : Acs} {S : Int → Int} {day : Int} {tl : Nat} {ls : List (Int × Int)} (h : Inv l S) (hE : checkE l day tl ls = 0) : Inv (postL l ls) (fun n => S n + legSum ls n) := by
  obtain ⟨h1, h2, h3⟩ := check_parts hE
  refine ⟨fun n a ha => ?_, fun n hn => ?_⟩
  · rw [post_find hE] at ha
    cases hf : aFind l n with
    | none => rw [hf] at ha; cases ha
    | some b =>
      rw [hf] at ha
      injection ha with ha
      rw [← ha]
      show b.2 + legSum ls n = S n + legSum ls n
      rw [h.there n b hf]
  · rw [post_find hE] at hn
    cases hf : aFind l n with
    | none => rw [h.gone n hf, legSum_none (legs_found h3) hf]; rfl
    | some b => rw [hf] at hn; cases hn
theorem Inv.opened {l : Acs} {S : Int → Int} {n kind : Int} (h : Inv l S) : Inv (openL l n kind) S := by
  unfold openL
  split
  · rename_i hE
    have hf : aFind l n = none := by
      unfold openE at hE
      split at hE
      · simp at hE
      · split at hE
        · simp at hE
        · rename_i h2
          simpa using h2
    refine ⟨fun m a ha => ?_, fun m hm => ?_⟩
    · rw [find_aPut] at ha
      by_cases e : n = m
      · subst e
        rw [if_pos rfl] at ha
        injection ha with ha
        rw [← ha, h.gone n hf]
      · rw [if_neg e] at ha
        exact h.there m a ha
    · rw [find_aPut] at hm
      by_cases e : n = m
      · rw [if_pos e] at hm; cases hm
      · rw [if_neg e] at hm
        exact h.gone m hm
  · exact h
theorem Inv.le {l : Acs} {S : Int → Int} (h : Inv l S) (hg : Good l) (n : Int) : -4611686018427387904 ≤ S n ∧ S n ≤ 4611686018427387904 := by
  cases hf : aFind l n with
  | none => rw [h.gone n hf]; omega
  | some a =>
    have := (amt_iff _).1 (hg n a hf).1
    rw [h.there n a hf] at this
    exact this
theorem total_aIns (e : Int × Int × Int) (l : Acs) : total (aIns e l) = e.2.2 + total l := by
  induction l with
  | nil => simp [aIns, total]
  | cons y r ih =>
    unfold aIns
    split
    · simp [total]
    · unfold total at ih ⊢
      rw [List.map_cons, List.sum_cons, ih, List.map_cons, List.sum_cons]
      omega
theorem total_open {l : Acs} {n kind : Int} : total (openL l n kind) = total l := by
  unfold openL
  split
  · rename_i hE
    have hf : aFind l n = none := by
      unfold openE at hE
      split at hE
      · simp at hE
      · split at hE
        · simp at hE
        · rename_i h2
          simpa using h2
    unfold aPut
    rw [total_aIns]
    have : aDel l n = l := by
      unfold aDel
      rw [List.filter_eq_self]
      intro y hy
      unfold aFind at hf
      rw [Option.map_eq_none_iff, List.find?_eq_none] at hf
      have := hf y hy
      simpa using this
    rw [this]
    simp
  · rfl
theorem map_find (l : Acs) (f : Int → Int) (n : Int) : aFind (l.map fun x => (x.1, x.2.1, x.2.2 + f x.1)) n = (aFind l n).map fun a => (a.1, a.2 + f n) := by
  induction l with
  | nil => rfl
  | cons y r ih =>
    rw [List.map_cons, find_cons, find_cons, ih]
    dsimp only
    by_cases h : y.1 = n
    · rw [if_pos h, if_pos h, h]; rfl
    · rw [if_neg h, if_neg h]
theorem one_key {l : Acs} (h : Rises l) {n m : Int} : (l.map fun x => if n = x.1 then m else 0).sum = if (aFind l n).isSome = true then m else 0 := by
  induction l with
  | nil => rfl
  | cons y r ih =>
    rw [Rises, List.pairwise_cons] at h
    rw [List.map_cons, List.sum_cons, ih h.2, find_cons]
    by_cases e : y.1 = n
    · rw [if_pos e.symm, if_pos e, find_none (l := r) (fun z hz => by have := h.1 z hz; omega)]
      simp
    · rw [if_neg (fun h => e h.symm), if_neg e]
      omega
theorem sum_legs {l : Acs} (h : Rises l) {ls : List (Int × Int)} (hf : ∀ x ∈ ls, ∃ a, aFind l x.1 = some a) : (l.map fun x => legSum ls x.1).sum = (ls.map (·.2)).sum := by
  induction ls with
  | nil =>
    have : ∀ l : Acs, (l.map fun x => legSum [] x.1).sum = 0 := by
      intro l
      induction l with
      | nil => rfl
      | cons y r ih => rw [List.map_cons, List.sum_cons, ih]; rfl
    rw [this]; rfl
  | cons y r ih =>
    have hs : ∀ l : Acs, (l.map fun x => legSum (y :: r) x.1).sum = (l.map fun x => if y.1 = x.1 then y.2 else 0).sum + (l.map fun x => legSum r x.1).sum := by
      intro l
      induction l with
      | nil => rfl
      | cons z s ihs =>
        rw [List.map_cons, List.sum_cons, ihs, List.map_cons, List.sum_cons, List.map_cons, List.sum_cons]
        show (if y.1 = z.1 then y.2 else 0) + legSum r z.1 + _ = _
        omega
    obtain ⟨a, ha⟩ := hf y (List.mem_cons_self ..)
    rw [hs, one_key h, ha, ih fun x hx => hf x (List.mem_cons_of_mem _ hx)]
    simp
theorem total_post {l : Acs} {day : Int} {tl : Nat} {ls : List (Int × Int)} (h : Rises l) (h2 : Rises (postL l ls)) (hE : checkE l day tl ls = 0) : total (postL l ls) = total l := by
  obtain ⟨c1, c2, c3⟩ := check_parts hE
  have e : postL l ls = l.map fun x => (x.1, x.2.1, x.2.2 + legSum ls x.1) := by
    refine acs_ext h2 ?_ (fun n => ?_)
    · rw [List.pairwise_map]
      exact h.imp fun h => h
    · rw [post_find hE, map_find l (legSum ls)]
  rw [e]
  have hs : ∀ l : Acs, total (l.map fun x => (x.1, x.2.1, x.2.2 + legSum ls x.1)) = total l + (l.map fun x => legSum ls x.1).sum := by
    intro l
    induction l with
    | nil => rfl
    | cons y r ih =>
      unfold total at ih ⊢
      rw [List.map_cons, List.map_cons, List.sum_cons, ih, List.map_cons, List.sum_cons, List.map_cons, List.sum_cons]
      dsimp only
      omega
  rw [hs, sum_legs h (legs_found c3), balB_sum c2]
  omega
theorem total_take {l : Acs} {k : Nat} {e : Int × Int × Int} (h : l[k]? = some e) : total (l.take (k + 1)) = total (l.take k) + e.2.2 := by
  rw [take_next h]
  unfold total
  simp [List.sum_append]
theorem total_le {l : Acs} (hg : ∀ x ∈ l, amt x.2.2 = true) : -(4611686018427387904 * (l.length : Int)) ≤ total l ∧ total l ≤ 4611686018427387904 * (l.length : Int) := by
  induction l with
  | nil => simp [total]
  | cons y r ih =>
    have h1 := ih fun x hx => hg x (List.mem_cons_of_mem _ hx)
    have h2 := (amt_iff _).1 (hg y (List.mem_cons_self ..))
    unfold total at h1 ⊢
    rw [List.map_cons, List.sum_cons, List.length_cons]
    omega
end Go.Proofs.Ytibanikfalfmcaa
