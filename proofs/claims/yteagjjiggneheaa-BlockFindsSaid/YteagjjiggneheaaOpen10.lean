/-
  Arguments of the laws of blocks: a list of pairs.
-/
import Derived.Test.YteagjjiggneheaaRead
import Derived.Test.YteagjjiggneheaaRdBytes
import Derived.Test.YteagjjiggneheaaPairs
import Derived.OpenShut
import Derived.KernelRfl
namespace Go.Proofs.Yteagjjiggneheaa
open Go.ChangeShapes Go.WideShapes Go.ChangeAt Go.RowKit
set_option linter.unusedVariables false

section
variable {H : Type} {enc : TypeId × Value → H} {w : World} {base : Nat} {held : Bool}
theorem cells_u8 : Try.prog.cellsOf 5 = 1 := by kernel_rfl
theorem cells_bytes : Try.prog.cellsOf 25 = 1 := by kernel_rfl
theorem cells_pair : Try.prog.cellsOf 34 = 2 := by kernel_rfl

theorem read_pair (l : List Value) (h : Rd enc Try.prog w base held 34 l) : ∃ p : Pr, l = p.cells ∧ (Bytes w w.heap.size p.A p.k ∧ p.k.length ≤ p.c ∧ Bytes w w.heap.size p.A2 p.v ∧ p.v.length ≤ p.c2) := by
  have hl := h.len Try.underlying34 cells_pair
  match l, hl with
  | [x, y], _ =>
    have f0 := h.field Try.underlying34 0 25 0 1 rfl cells_bytes
    have f1 := h.field Try.underlying34 1 25 1 1 rfl cells_bytes
    obtain ⟨A, bs, k, e0, h1, h2, h3⟩ := Rd.bytes Try.underlying25 Try.underlying5 cells_u8 f0
    obtain ⟨A', bs', k', e1, h1', h2', h3'⟩ := Rd.bytes Try.underlying25 Try.underlying5 cells_u8 f1
    simp at e0 e1
    exact ⟨⟨A, k, bs, A', k', bs'⟩, by rw [e0, e1]; rfl, h3, h1, h3', h1'⟩

theorem open_pairs {r : Reach} {b0 : Nat} {v : Value} {d : DataW H} {p : List MemPlace} (hv : Value.okWide Try.prog w r b0 22 v) (h : DataW.Trod enc Try.prog w base (fun _ => true) held 22 v d p) :
    ∃ A l c, v = .slice A (l : List Pr).length c ∧ PrRow w w.heap.size A l ∧ l.length ≤ c ∧ l.length ≤ 9223372036854775807 := by
  obtain ⟨a1, len1, cap1, rfl⟩ := okWide_slice Try.underlying22 hv
  obtain ⟨A, l, k, e0, hk, hm, hg, hrow⟩ := Rd.slice Pr.cells (fun p => Bytes w w.heap.size p.A p.k ∧ p.k.length ≤ p.c ∧ Bytes w w.heap.size p.A2 p.v ∧ p.v.length ≤ p.c2) Try.underlying22 cells_pair (by omega) read_pair (Rd.of_trod h)
  simp [Value.cells] at e0
  obtain ⟨rfl, rfl, rfl⟩ := e0
  exact ⟨_, l, _, rfl, ⟨hrow, hg⟩, hk, by unfold maxLen at hm; omega⟩
end
end Go.Proofs.Yteagjjiggneheaa
