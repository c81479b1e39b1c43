/-
  Own rows that lie apart; what a walk answers.
-/
import Derived.Test.YtpakihbejdpmoaaOwn
namespace Go.Proofs.Ytpakihbejdpmoaa
open Go.RowKit
set_option linter.unusedVariables false

/-- A slice just made and an error. -/
def NewB2 (w w' : World) (e : Ending) (r : List UInt8 × Int) : Prop :=
  ∃ A c, e = .returned (.tuple #[.slice A r.1.length c, .int .i64 r.2]) ∧ OwnB w' w.heap.size 5 A c r.1 ∧ Below w.heap.size w w'
/-- The block of an own row. -/
def InRow (A : Option Addr) (k : Nat) : Prop := A.map (·.block) = some k
/-- Two own rows lie apart. -/
def Apart (A A2 : Option Addr) : Prop := ∀ q, InRow A q → ¬ InRow A2 q
theorem Apart.none {A : Option Addr} : Apart none A := fun q h => by unfold InRow at h; simp at h
theorem Apart.symm {A A2 : Option Addr} (h : Apart A A2) : Apart A2 A := fun q h1 h2 => h q h2 h1
theorem Apart.ne {A A2 : Option Addr} (h : Apart A A2) : A2.map (·.block) = Option.none ∨ A2.map (·.block) ≠ A.map (·.block) := by
  cases A2 with
  | none => exact .inl rfl
  | some b =>
    refine .inr fun e => ?_
    exact h b.block e.symm rfl
/-- Behind a growth of the first row. -/
theorem Apart.next {A A2 A' : Option Addr} {n : Nat} (h : Apart A A2) (hat : A'.map (·.block) = A.map (·.block) ∨ A'.map (·.block) = some n) (hlt : ∀ q, InRow A2 q → q < n) : Apart A' A2 := by
  intro q h1 h2
  unfold InRow at h1
  rcases hat with e | e
  · rw [e] at h1; exact h q h1 h2
  · rw [e] at h1; injection h1 with h1; have := hlt q h2; omega
end Go.Proofs.Ytpakihbejdpmoaa
