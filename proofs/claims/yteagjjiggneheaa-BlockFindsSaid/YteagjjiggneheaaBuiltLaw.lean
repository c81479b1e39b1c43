/-
  What was built is parsed, and sought, as it was: in plain Lean.
-/
import Derived.Test.YteagjjiggneheaaSeek2
namespace Go.Proofs.Yteagjjiggneheaa
set_option linter.unusedVariables false

theorem chain_entries (every i : Nat) (last : List UInt8) (l : List KV) : Chain last (entriesOf every i last l) := by
  induction l generalizing i last with
  | nil => exact trivial
  | cons p t ih =>
    refine ⟨?_, ih (i + 1) p.1⟩
    split
    · exact ⟨Nat.zero_le _, by simp, Nat.zero_le _⟩
    · refine ⟨comm_le_left _ _, ?_, comm_le_right _ _⟩
      apply List.ext_getElem?
      intro j
      by_cases hj : j < comm last p.1
      · rw [List.getElem?_take_of_lt hj, List.getElem?_take_of_lt hj, comm_same hj]
      · rw [List.getElem?_eq_none (by rw [List.length_take]; omega), List.getElem?_eq_none (by rw [List.length_take]; omega)]
theorem buildR_zero {every : Int} {l : List KV} {b : List UInt8} (h : buildR every l = (b, 0)) : ∃ E : Nat, every = (E : Int) ∧ 1 ≤ E ∧ E ≤ 64 ∧ l.length ≤ 20000 ∧ Rises l l.length ∧ b = builtB E l := by
  unfold buildR at h
  split at h
  · injection h with _ h; cases h
  · rename_i hg
    split at h
    · rename_i hr
      injection h with h _
      exact ⟨every.toNat, by omega, by omega, by omega, by omega, hr, h.symm⟩
    · injection h with _ h; cases h
theorem buildR_err {every : Int} {l : List KV} : (buildR every l).2 = 0 ∨ (buildR every l).2 = 1 ∨ (buildR every l).2 = 10 := by
  unfold buildR
  split
  · exact .inr (.inl rfl)
  · split
    · exact .inl rfl
    · exact .inr (.inr rfl)
theorem built_parse {every : Int} {l : List KV} {b : List UInt8} (h : buildR every l = (b, 0)) (hs : ∀ p ∈ l, p.1.length < 18446744073709551616 ∧ p.2.length < 18446744073709551616) : parseQ b = some l := by
  obtain ⟨E, rfl, h1, h2, h3, h4, h5⟩ := buildR_zero h
  rw [builtB_parts] at h5
  have hl := headsOf_len E 0 0 (entriesOf E 0 [] l)
  rw [entriesOf_len] at hl
  obtain ⟨t1, t2, t3, t4, t5, t6⟩ := tail_of _ _ _ E b h5 (by omega) (by omega) (flat4_len _)
  have hall : allE [] (bodyOf (entriesOf E 0 [] l)) = some (entriesOf E 0 [] l) := allE_body (chain_entries E 0 [] l) (by simp) (fun e he => by
    have hm : e.2 ∈ (entriesOf E 0 [] l).map (·.2) := List.mem_map_of_mem he
    rw [entriesOf_snd] at hm
    exact hs _ hm)
  unfold parseQ
  rw [if_neg (by omega), t3, if_neg (by omega), t5, hall]
  dsimp only
  rw [entriesOf_snd, t2, if_pos h]

theorem less_irrefl (a : List UInt8) : Op.bytesLess a a = false := by
  cases h : Op.bytesLess a a
  · rfl
  · have := (compare_less a a).2.1.2 h
    have := (compare_less a a).2.2.2 rfl
    omega
theorem seek_at {l : List KV} (h : Rises l l.length) {i : Nat} {p : KV} (hp : l[i]? = some p) : l.find? (notLess p.1) = some p := by
  have hf : IsFirst p.1 l i := by
    refine ⟨Nat.le_of_lt (List.getElem?_eq_some_iff.1 hp).1, ?_, ?_⟩
    · intro k q hk hq
      obtain ⟨d, rfl⟩ : ∃ d, i = k + d + 1 := ⟨i - k - 1, by omega⟩
      unfold notLess
      rw [rises_lt h hq hp]; rfl
    · intro q hq
      rw [hp] at hq
      injection hq with hq
      subst hq
      unfold notLess
      rw [less_irrefl]; rfl
  rw [find_first hf, hp]
/-- A key is found just where it is. -/
theorem seek_there {l : List KV} (h : Rises l l.length) (key : List UInt8) : (l.find? (notLess key)).any (fun p => decide (p.1 = key)) = l.any fun p => decide (p.1 = key) := by
  cases ha : l.any fun p => decide (p.1 = key) with
  | true =>
    obtain ⟨p, hp, hk⟩ := List.any_eq_true.1 ha
    simp at hk
    obtain ⟨i, hi⟩ := List.mem_iff_getElem?.1 hp
    subst hk
    rw [seek_at h hi]
    simp
  | false =>
    cases hf : l.find? (notLess key) with
    | none => rfl
    | some p =>
      have hm := List.mem_of_find?_eq_some hf
      have := List.any_eq_false.1 ha p hm
      simpa using this
end Go.Proofs.Yteagjjiggneheaa
