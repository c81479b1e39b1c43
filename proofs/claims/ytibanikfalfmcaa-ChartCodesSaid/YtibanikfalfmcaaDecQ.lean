/-
  A posting decoded of any bytes, in plain Lean.
-/
import Derived.Test.YtibanikfalfmcaaTakeI
import Derived.Test.YtibanikfalfmcaaEncC1
namespace Go.Proofs.Ytibanikfalfmcaa
open Go.RowKit
set_option linter.unusedVariables false

/-- A number of at most 'most' with which bytes begin. -/
def numQ (most : Int) (bs : List UInt8) : Option (Nat × List UInt8) := match takeN bs with
  | none => none
  | some (n, r) => if (n : Int) ≤ most then some (n, r) else none
theorem numQ_none {most : Int} {bs : List UInt8} (h : takeN bs = none) : numQ most bs = none := by unfold numQ; rw [h]
theorem numQ_yes {most : Int} {bs : List UInt8} {n : Nat} {r : List UInt8} (h : takeN bs = some (n, r)) (hn : (n : Int) ≤ most) : numQ most bs = some (n, r) := by unfold numQ; rw [h]; exact if_pos hn
theorem numQ_no {most : Int} {bs : List UInt8} {n : Nat} {r : List UInt8} (h : takeN bs = some (n, r)) (hn : ¬ (n : Int) ≤ most) : numQ most bs = none := by unfold numQ; rw [h]; exact if_neg hn
theorem numQ_some {most : Int} {bs : List UInt8} {n : Nat} {r : List UInt8} (h : numQ most bs = some (n, r)) : takeN bs = some (n, r) ∧ (n : Int) ≤ most := by
  unfold numQ at h
  cases ht : takeN bs with
  | none => rw [ht] at h; cases h
  | some x =>
    obtain ⟨m, s⟩ := x
    rw [ht] at h
    dsimp only at h
    split at h
    · injection h with h
      injection h with h1 h2
      subst h1
      subst h2
      exact ⟨rfl, by assumption⟩
    · cases h
theorem takeN_len {bs : List UInt8} {n : Nat} {r : List UInt8} (h : takeN bs = some (n, r)) : r.length ≤ bs.length := by
  obtain ⟨p, hp, _⟩ := takeN_suffix h
  rw [hp, List.length_append]
  omega
theorem numQ_len {most : Int} {bs : List UInt8} {n : Nat} {r : List UInt8} (h : numQ most bs = some (n, r)) : r.length ≤ bs.length := takeN_len (numQ_some h).1
theorem takeT_len {bs t r : List UInt8} (h : takeT bs = some (t, r)) : r.length ≤ bs.length ∧ t.length ≤ bs.length := by
  unfold takeT at h
  cases ht : takeN bs with
  | none => rw [ht] at h; cases h
  | some x =>
    obtain ⟨m, s⟩ := x
    rw [ht] at h
    dsimp only at h
    have := takeN_len ht
    split at h
    · injection h with h
      injection h with h1 h2
      subst h1
      subst h2
      rw [List.length_drop, List.length_take]
      omega
    · cases h

/-- Legs taken. -/
def legsQ : Nat → List (Int × Int) → List UInt8 → Option (List (Int × Int) × List UInt8)
  | 0, ls, bs => some (ls, bs)
  | n + 1, ls, bs => match numQ 99999 bs with
    | none => none
    | some (a, r) => match takeN r with
      | none => none
      | some (z, r2) => legsQ n (ls ++ [((a : Int), zag z)]) r2
theorem legsQ_no1 {n : Nat} {ls : List (Int × Int)} {bs : List UInt8} (h : numQ 99999 bs = none) : legsQ (n + 1) ls bs = none := by unfold legsQ; rw [h]
theorem legsQ_no2 {n : Nat} {ls : List (Int × Int)} {bs : List UInt8} {a : Nat} {r : List UInt8} (h : numQ 99999 bs = some (a, r)) (h2 : takeN r = none) : legsQ (n + 1) ls bs = none := by
  unfold legsQ; rw [h]; dsimp only; rw [h2]
theorem legsQ_yes {n : Nat} {ls : List (Int × Int)} {bs : List UInt8} {a : Nat} {r : List UInt8} {z : Nat} {r2 : List UInt8} (h : numQ 99999 bs = some (a, r)) (h2 : takeN r = some (z, r2)) : legsQ (n + 1) ls bs = legsQ n (ls ++ [((a : Int), zag z)]) r2 := by
  conv => lhs; unfold legsQ
  rw [h]; dsimp only; rw [h2]

/-- A posting decoded. -/
def decQ (most : Int) (bs : List UInt8) : Option (Int × List UInt8 × List (Int × Int)) := match numQ most bs with
  | none => none
  | some (d, r) => match takeT r with
    | none => none
    | some (t, r2) => match numQ 20 r2 with
      | none => none
      | some (n, r3) => match legsQ n [] r3 with
        | none => none
        | some (ls, r4) => if r4 = [] ∧ rightE d t.length ls = true then some ((d : Int), t, ls) else none
section
variable {most : Int} {bs r t r2 r3 r4 : List UInt8} {d n : Nat} {ls : List (Int × Int)}
theorem decQ_no1 (h : numQ most bs = none) : decQ most bs = none := by unfold decQ; rw [h]
theorem decQ_no2 (h : numQ most bs = some (d, r)) (h2 : takeT r = none) : decQ most bs = none := by unfold decQ; rw [h]; dsimp only; rw [h2]
theorem decQ_no3 (h : numQ most bs = some (d, r)) (h2 : takeT r = some (t, r2)) (h3 : numQ 20 r2 = none) : decQ most bs = none := by unfold decQ; rw [h]; dsimp only; rw [h2]; dsimp only; rw [h3]
theorem decQ_no4 (h : numQ most bs = some (d, r)) (h2 : takeT r = some (t, r2)) (h3 : numQ 20 r2 = some (n, r3)) (h4 : legsQ n [] r3 = none) : decQ most bs = none := by
  unfold decQ; rw [h]; dsimp only; rw [h2]; dsimp only; rw [h3]; dsimp only; rw [h4]
theorem decQ_end (h : numQ most bs = some (d, r)) (h2 : takeT r = some (t, r2)) (h3 : numQ 20 r2 = some (n, r3)) (h4 : legsQ n [] r3 = some (ls, r4)) : decQ most bs = if r4 = [] ∧ rightE d t.length ls = true then some ((d : Int), t, ls) else none := by
  unfold decQ; rw [h]; dsimp only; rw [h2]; dsimp only; rw [h3]; dsimp only; rw [h4]
end
theorem rightE_day {day : Int} {n : Nat} {ls : List (Int × Int)} (h : rightE day n ls = true) : day ≤ 3652058 := by
  unfold rightE dayOk at h
  simp only [Bool.and_eq_true, decide_eq_true_eq] at h
  omega
theorem decQ_wide (bs : List UInt8) : decQ 9999999 bs = decQ 3652058 bs := by
  cases ht : takeN bs with
  | none => rw [decQ_no1 (numQ_none ht), decQ_no1 (numQ_none ht)]
  | some x =>
    obtain ⟨d, r⟩ := x
    by_cases h1 : (d : Int) ≤ 3652058
    · have e1 := numQ_yes (most := 9999999) ht (by omega)
      have e2 := numQ_yes (most := 3652058) ht h1
      unfold decQ
      rw [e1, e2]
    · rw [decQ_no1 (numQ_no ht h1)]
      by_cases h2 : (d : Int) ≤ 9999999
      · have e1 := numQ_yes (most := 9999999) ht h2
        cases h3 : takeT r with
        | none => exact decQ_no2 e1 h3
        | some y =>
          obtain ⟨t, r2⟩ := y
          cases h4 : numQ 20 r2 with
          | none => exact decQ_no3 e1 h3 h4
          | some y =>
            obtain ⟨n, r3⟩ := y
            cases h5 : legsQ n [] r3 with
            | none => exact decQ_no4 e1 h3 h4 h5
            | some y =>
              obtain ⟨ls, r4⟩ := y
              rw [decQ_end e1 h3 h4 h5, if_neg]
              intro h
              have := rightE_day h.2
              omega
      · exact decQ_no1 (numQ_no ht h2)
/-- What a decoding answers. -/
def DecP (w w' : World) (e : Ending) : Option (Int × List UInt8 × List (Int × Int)) → Prop
  | none => e = .returned (.tuple #[.agg #[.int .i64 0, .string ⟨#[]⟩, .slice none 0 0], .int .i64 3]) ∧ Below w.heap.size w w'
  | some (d, t, ls) => ∃ A c, e = .returned (.tuple #[.agg #[.int .i64 d, .string (strB t), .slice A ls.length c], .int .i64 0]) ∧ Row w' w'.heap.size A (legCells ls) ∧ Below w.heap.size w w' ∧ rightE d t.length ls = true
end Go.Proofs.Ytibanikfalfmcaa
