/-
  Charts, in plain words: what a posting leaves.
-/
import Derived.Test.YtibanikfalfmcaaIter19
namespace Go.Proofs.Ytibanikfalfmcaa
open Go.RowKit
set_option linter.unusedVariables false

def legSum : List (Int × Int) → Int → Int
  | [], _ => 0
  | x :: r, n => (if x.1 = n then x.2 else 0) + legSum r n
theorem addE_ok {a b : Int} (h : (addE a b).2 = 0) : amt a = true ∧ amt b = true ∧ amt (a + b) = true := by
  unfold addE at h
  split at h
  · rename_i h1
    split at h
    · rename_i h2; exact ⟨h1.1, h1.2, h2⟩
    · simp at h
  · simp at h
theorem addE_of {a b : Int} (h1 : amt a = true) (h2 : amt b = true) (h3 : amt (a + b) = true) : (addE a b).2 = 0 := by
  unfold addE
  rw [if_pos ⟨h1, h2⟩, if_pos h3]
theorem legsE_over (l : Acs) (ls : List (Int × Int)) : legsE l true ls ≠ 0 := by
  induction ls with
  | nil => unfold legsE; simp
  | cons x r ih =>
    unfold legsE
    cases aFind l x.1 with
    | none => simp
    | some a => simpa using ih
theorem legsE_cons {l : Acs} {over : Bool} {x : Int × Int} {r : List (Int × Int)} (h : legsE l over (x :: r) = 0) : ∃ a, aFind l x.1 = some a ∧ (addE a.2 x.2).2 = 0 ∧ legsE l over r = 0 := by
  have hover : over = false := by
    cases over with
    | true => exact absurd h (legsE_over _ _)
    | false => rfl
  subst hover
  unfold legsE at h
  cases hf : aFind l x.1 with
  | none => rw [hf] at h; simp at h
  | some a =>
    rw [hf] at h
    dsimp only at h
    rw [Bool.false_or] at h
    by_cases h2 : (addE a.2 x.2).2 = 0
    · rw [decide_eq_true h2] at h
      exact ⟨a, rfl, h2, h⟩
    · rw [decide_eq_false h2] at h
      exact absurd h (legsE_over _ _)
theorem wrap_amt {a : Int} (h : amt a = true) : wrap64 a = a := by
  have := (amt_iff a).1 h
  exact IntWalk.wrap64_in _ (by omega)
theorem legOk_seen {seen : List Int} {x : Int × Int} (h : legOk seen x = true) : x.1 ∉ seen := by
  unfold legOk at h
  simp at h
  exact h.1.1.2
/-- What a posting leaves, account by account. -/
theorem post_ind {l0 : Acs} : ∀ (ls : List (Int × Int)) (seen : List Int) (lk : Acs), legsOk seen ls = true → legsE l0 false ls = 0 → (∀ n, n ∉ seen → aFind lk n = aFind l0 n) →
    (∀ n, aFind (postL lk ls) n = (aFind lk n).map fun a => (a.1, a.2 + legSum ls n)) ∧ ((∀ n a, aFind lk n = some a → amt a.2 = true) → ∀ n a, aFind (postL lk ls) n = some a → amt a.2 = true) := by
  intro ls
  induction ls with
  | nil =>
    intro seen lk _ _ _
    refine ⟨fun n => ?_, fun h => h⟩
    show aFind lk n = _
    cases aFind lk n with
    | none => rfl
    | some a => simp [legSum]
  | cons x r ih =>
    intro seen lk hok hE hs
    unfold legsOk at hok
    rw [Bool.and_eq_true] at hok
    obtain ⟨a, ha, hadd, hr⟩ := legsE_cons hE
    have hseen := legOk_seen hok.1
    have hak : aFind lk x.1 = some a := (hs _ hseen).trans ha
    obtain ⟨_, _, hsum⟩ := addE_ok hadd
    have hlook : lookA lk x.1 = a := by unfold lookA; rw [hak]; rfl
    have hstep : postL lk (x :: r) = postL (aPut lk x.1 (a.1, a.2 + x.2)) r := by
      unfold postL
      rw [List.foldl_cons, hlook, wrap_amt hsum]
    have hs2 : ∀ n, n ∉ seen ++ [x.1] → aFind (aPut lk x.1 (a.1, a.2 + x.2)) n = aFind l0 n := by
      intro n hn
      rw [find_aPut, if_neg (fun e => hn (by rw [e]; simp))]
      exact hs n (fun h => hn (List.mem_append_left _ h))
    obtain ⟨h1, h2⟩ := ih (seen ++ [x.1]) (aPut lk x.1 (a.1, a.2 + x.2)) hok.2 hr hs2
    refine ⟨fun n => ?_, fun hg n b hb => ?_⟩
    · rw [hstep, h1 n, find_aPut]
      by_cases e : x.1 = n
      · subst e
        rw [if_pos rfl, hak]
        simp [legSum]
        omega
      · rw [if_neg e]
        simp [legSum, e]
    · rw [hstep] at hb
      refine h2 (fun m c hc => ?_) n b hb
      rw [find_aPut] at hc
      by_cases e : x.1 = m
      · rw [if_pos e] at hc
        injection hc with hc
        rw [← hc]
        exact hsum
      · rw [if_neg e] at hc
        exact hg m c hc
/-- A chart whose numbers are such as they may be. -/
def Good (l : Acs) : Prop := ∀ n a, aFind l n = some a → amt a.2 = true ∧ 1 ≤ a.1 ∧ a.1 ≤ 4 ∧ 1 ≤ n ∧ n ≤ 99999
theorem check_parts {l : Acs} {day : Int} {tl : Nat} {ls : List (Int × Int)} (h : checkE l day tl ls = 0) : rightE day tl ls = true ∧ balB ls = true ∧ legsE l false ls = 0 := by
  unfold checkE at h
  by_cases h1 : rightE day tl ls = false
  · rw [if_pos h1] at h; simp at h
  · rw [if_neg h1] at h
    by_cases h2 : balB ls = false
    · rw [if_pos h2] at h; simp at h
    · rw [if_neg h2] at h
      exact ⟨by simpa using h1, by simpa using h2, h⟩
theorem right_legs {day : Int} {tl : Nat} {ls : List (Int × Int)} (h : rightE day tl ls = true) : legsOk [] ls = true := by
  unfold rightE at h
  simp only [Bool.and_eq_true] at h
  exact h.1.1.1.1
theorem post_find {l : Acs} {day : Int} {tl : Nat} {ls : List (Int × Int)} (h : checkE l day tl ls = 0) (n : Int) : aFind (postL l ls) n = (aFind l n).map fun a => (a.1, a.2 + legSum ls n) := by
  obtain ⟨h1, h2, h3⟩ := check_parts h
  exact (post_ind ls [] l (right_legs h1) h3 (fun _ _ => rfl)).1 n
theorem post_good {l : Acs} {day : Int} {tl : Nat} {ls : List (Int × Int)} (hg : Good l) (h : checkE l day tl ls = 0) : Good (postL l ls) := by
  obtain ⟨h1, h2, h3⟩ := check_parts h
  intro n a ha
  have hamt := (post_ind ls [] l (right_legs h1) h3 (fun _ _ => rfl)).2 (fun n a h => (hg n a h).1) n a ha
  rw [post_find h n] at ha
  cases hf : aFind l n with
  | none => rw [hf] at ha; cases ha
  | some b =>
    rw [hf] at ha
    injection ha with ha
    have := hg n b hf
    rw [← ha] at hamt ⊢
    exact ⟨hamt, this.2⟩
theorem posted_good {l : Acs} {day : Int} {tl : Nat} {ls : List (Int × Int)} (hg : Good l) : Good (postedL l day tl ls) := by
  unfold postedL
  split
  · rename_i h; exact post_good hg h
  · exact hg
theorem open_good {l : Acs} {n kind : Int} (hg : Good l) : Good (openL l n kind) := by
  unfold openL
  split
  · rename_i h
    unfold openE at h
    split at h
    · simp at h
    · rename_i hno
      intro m a ha
      rw [find_aPut] at ha
      by_cases e : n = m
      · rw [if_pos e] at ha
        injection ha with ha
        rw [← ha]
        refine ⟨by show amt 0 = true; decide, ?_, ?_, ?_, ?_⟩
        · show 1 ≤ kind; omega
        · show kind ≤ 4; omega
        · omega
        · omega
      · rw [if_neg e] at ha
        exact hg m a ha
  · exact hg
theorem Good.nil : Good [] := fun n a h => by simp [aFind] at h
/-- No account that is there is lost, and no more than so many come. -/
theorem posted_len {l : Acs} {day : Int} {tl : Nat} {ls : List (Int × Int)} : (postedL l day tl ls).length ≤ l.length + ls.length := by
  unfold postedL
  split
  · exact postL_len l ls
  · omega
theorem open_len {l : Acs} {n kind : Int} : (openL l n kind).length ≤ l.length + 1 := by
  unfold openL
  split
  · exact aPut_len _ _ _
  · omega
/-- Two rising lists of which each number says the same are one. -/
theorem find_none {l : Acs} {n : Int} (h : ∀ x ∈ l, n < x.1) : aFind l n = none := by
  unfold aFind
  rw [Option.map_eq_none_iff, List.find?_eq_none]
  intro x hx
  have := h x hx
  simp
  omega
theorem find_cons (x : Int × Int × Int) (r : Acs) (n : Int) : aFind (x :: r) n = if x.1 = n then some x.2 else aFind r n := by
  unfold aFind
  by_cases h : x.1 = n
  · rw [List.find?_cons_of_pos (by simpa using h), if_pos h]; rfl
  · rw [List.find?_cons_of_neg (by simpa using h), if_neg h]
theorem acs_ext : ∀ {l1 l2 : Acs}, l1.Pairwise (fun x y => x.1 < y.1) → l2.Pairwise (fun x y => x.1 < y.1) → (∀ n, aFind l1 n = aFind l2 n) → l1 = l2 := by
  intro l1
  induction l1 with
  | nil =>
    intro l2 _ h2 h
    cases l2 with
    | nil => rfl
    | cons y s => have := h y.1; rw [find_cons, if_pos rfl] at this; cases this
  | cons x r ih =>
    intro l2 h1 h2 h
    rw [List.pairwise_cons] at h1
    cases l2 with
    | nil => have := h x.1; rw [find_cons, if_pos rfl] at this; cases this
    | cons y s =>
      rw [List.pairwise_cons] at h2
      have hxy : x.1 = y.1 := by
        rcases Int.lt_trichotomy x.1 y.1 with c | c | c
        · have h3 := h x.1
          rw [find_cons, if_pos rfl, find_none (l := y :: s)] at h3
          · cases h3
          · intro z hz
            rcases List.mem_cons.1 hz with rfl | hz
            · exact c
            · have := h2.1 z hz; omega
        · exact c
        · have h3 := h y.1
          rw [find_cons y, if_pos rfl, find_none (l := x :: r)] at h3
          · cases h3
          · intro z hz
            rcases List.mem_cons.1 hz with rfl | hz
            · exact c
            · have := h1.1 z hz; omega
      have h3 := h x.1
      rw [find_cons, if_pos rfl, find_cons, if_pos hxy.symm] at h3
      injection h3 with h3
      have hx : x = y := Prod.ext hxy h3
      subst hx
      congr 1
      refine ih h1.2 h2.2 fun n => ?_
      have h4 := h n
      rw [find_cons, find_cons] at h4
      by_cases e : x.1 = n
      · rw [find_none (fun z hz => by have := h1.1 z hz; omega), find_none (fun z hz => by have := h2.1 z hz; omega)]
      · rw [if_neg e, if_neg e] at h4
        exact h4
theorem balB_sum {ls : List (Int × Int)} (h : balB ls = true) : (ls.map (·.2)).sum = 0 := by
  unfold balB at h
  rw [Bool.and_eq_true, decide_eq_true_eq, decide_eq_true_eq] at h
  obtain ⟨h1, h2⟩ := h
  unfold sumE at h1 h2
  split at h1
  · rename_i h3
    rw [if_pos h3] at h2
    unfold toldE at h1 h2
    split at h1
    · rename_i h4
      rw [if_pos h4] at h2
      exact h2
    · simp at h1
  · simp at h1
end Go.Proofs.Ytibanikfalfmcaa
