/-
  Keys that came in.
-/
import Derived.Test.YtnmgbhpmmbhgoaaKeys
import Derived.Test.YtnmgbhpmmbhgoaaRdBytes
namespace Go.Proofs.Ytnmgbhpmmbhgoaa
open Go.ChangeShapes Go.WideShapes Go.ChangeAt Go.RowKit
set_option linter.unusedVariables false

section
variable {H : Type} {enc : TypeId × Value → H} {w : World} {base : Nat} {held : Bool}
theorem cells_u8 : Try.prog.cellsOf 5 = 1 := by kernel_rfl
theorem cells_bytes : Try.prog.cellsOf 23 = 1 := by kernel_rfl

theorem read_key (l : List Value) (h : Rd enc Try.prog w base held 23 l) : ∃ p : Ky, l = [p.cell] ∧ (Bytes w w.heap.size p.A p.k ∧ p.k.length ≤ p.c) := by
  obtain ⟨A, bs, k, e0, h1, h2, h3⟩ := Rd.bytes Try.underlying23 Try.underlying5 cells_u8 h
  exact ⟨⟨A, k, bs⟩, e0, h3, h1⟩

theorem open_keys {r : Reach} {b0 : Nat} {v : Value} {d : DataW H} {p : List MemPlace} (hv : Value.okWide Try.prog w r b0 22 v) (h : DataW.Trod enc Try.prog w base (fun _ => true) held 22 v d p) :
    ∃ A l c, v = .slice A (l : List Ky).length c ∧ KyRow w w.heap.size A l ∧ l.length ≤ c ∧ l.length ≤ 9223372036854775807 := by
  obtain ⟨a1, len1, cap1, rfl⟩ := okWide_slice Try.underlying22 hv
  obtain ⟨A, l, k, e0, hk, hm, hg, hrow⟩ := Rd.slice (fun p : Ky => [p.cell]) (fun p => Bytes w w.heap.size p.A p.k ∧ p.k.length ≤ p.c) Try.underlying22 cells_bytes (by omega) read_key (Rd.of_trod h)
  simp [Value.cells] at e0
  obtain ⟨rfl, rfl, rfl⟩ := e0
  have e : ∀ l : List Ky, l.flatMap (fun p => [p.cell]) = l.map Ky.cell := by
    intro l
    induction l with
    | nil => rfl
    | cons a l ih => simp [ih]
  rw [e] at hrow
  exact ⟨_, l, _, rfl, ⟨hrow, fun p hp => (hg p hp).1⟩, hk, by unfold maxLen at hm; omega⟩
end
end Go.Proofs.Ytnmgbhpmmbhgoaa
