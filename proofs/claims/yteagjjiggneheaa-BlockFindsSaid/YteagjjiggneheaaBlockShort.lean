/-
  A block with fewer heads is no longer.
-/
import Derived.Test.YteagjjiggneheaaBlockMath
namespace Go.Proofs.Yteagjjiggneheaa
set_option linter.unusedVariables false

theorem moreLE_le (f m : Nat) : (moreLE f m).length ≤ m := by
  induction f generalizing m with
  | zero => simp [moreLE]
  | succ f ih =>
    unfold moreLE
    split
    · simp
    · have := ih (m / 128)
      simp only [List.length_cons]
      omega
theorem moreLE_mono (f : Nat) {m n : Nat} (h : m ≤ n) : (moreLE f m).length ≤ (moreLE f n).length := by
  induction f generalizing m n with
  | zero => simp [moreLE]
  | succ f ih =>
    unfold moreLE
    by_cases hm : m = 0
    · rw [if_pos hm]; simp
    · rw [if_neg hm, if_neg (by omega)]
      have := ih (Nat.div_le_div_right (c := 128) h)
      simp only [List.length_cons]
      omega
theorem numB_le (n : Nat) : (numB n).length ≤ n + 1 := by
  unfold numB lowFirst
  have := moreLE_le 10 (n / 128)
  simp only [List.length_reverse, List.length_cons]
  omega
theorem numB_pos0 (n : Nat) : 1 ≤ (numB n).length := by
  unfold numB lowFirst
  simp
theorem numB_mono {m n : Nat} (h : m ≤ n) : (numB m).length ≤ (numB n).length := by
  unfold numB lowFirst
  have := moreLE_mono 10 (Nat.div_le_div_right (c := 128) h)
  simp only [List.length_reverse, List.length_cons]
  omega
theorem entry_shorter {n : Nat} {p : KV} (h : n ≤ p.1.length) : (entryB n p).length ≤ (entryB 0 p).length := by
  unfold entryB textB
  have h1 := numB_le n
  have h2 := numB_pos0 0
  have h3 := numB_mono (show (p.1.drop n).length ≤ p.1.length by rw [List.length_drop]; omega)
  simp only [List.length_append, List.drop_zero]
  have h4 : (p.1.drop n).length = p.1.length - n := List.length_drop
  omega
theorem body_shorter (E T : Nat) (l : List KV) (k : Nat) : (bodyTo (E * T) l k).1.length + (bodyTo (E * T) l k).2.length ≤ (bodyTo E l k).1.length + (bodyTo E l k).2.length := by
  induction k with
  | zero => simp [bodyTo]
  | succ k ih =>
    cases h : l[k]? with
    | none => simp only [bodyTo, h]; exact ih
    | some p =>
      by_cases h1 : k % (E * T) = 0
      · have h2 : k % E = 0 := by
          obtain ⟨m, hm⟩ := Nat.dvd_of_mod_eq_zero h1
          exact Nat.mod_eq_zero_of_dvd ⟨T * m, by rw [hm, Nat.mul_assoc]⟩
        rw [bodyTo_head h h1, bodyTo_head h h2]
        simp only [List.length_append, four_len]
        omega
      · have h3 := entry_shorter (p := p) (comm_le_right (prevKey l k) p.1)
        by_cases h2 : k % E = 0
        · rw [bodyTo_next h h1, bodyTo_head h h2]
          simp only [List.length_append, four_len]
          omega
        · rw [bodyTo_next h h1, bodyTo_next h h2]
          simp only [List.length_append]
          omega
theorem built_shorter (E T : Nat) (l : List KV) : (builtB (E * T) l).length ≤ (builtB E l).length := by
  unfold builtB
  have := body_shorter E T l l.length
  simp only [List.length_append, four_len, List.length_cons, List.length_nil]
  omega
end Go.Proofs.Yteagjjiggneheaa
