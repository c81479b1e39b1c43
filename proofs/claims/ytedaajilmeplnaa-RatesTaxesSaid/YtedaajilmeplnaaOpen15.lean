/-
  A schedule that came in.
-/
import Derived.Test.YtedaajilmeplnaaRead
import Derived.Test.YtedaajilmeplnaaRates
import Derived.KernelRfl
namespace Go.Proofs.Ytedaajilmeplnaa
open Go.ChangeShapes Go.WideShapes Go.ChangeAt Go.RowKit
set_option linter.unusedVariables false

section
variable {H : Type} {enc : TypeId × Value → H} {w : World} {base : Nat} {held : Bool}

theorem read_i64 {t : TypeId} {cs : List Value} (ht : Try.prog.underlying t = some (.int .i64)) (h : Rd enc Try.prog w base held t cs) : ∃ z, cs = [.int .i64 z] ∧ -9223372036854775808 ≤ z ∧ z ≤ 9223372036854775807 := by
  obtain ⟨z, h1, h2⟩ := h.int ht
  have hz : -9223372036854775808 ≤ z ∧ z ≤ 9223372036854775807 := by simpa [Lit.wf, IntKind.min, IntKind.max, IntKind.signed, IntKind.bits] using h2
  exact ⟨z, h1, hz.1, hz.2⟩

theorem cells_i64 : Try.prog.cellsOf 2 = 1 := by kernel_rfl
theorem cells_int : Try.prog.cellsOf 3 = 1 := by kernel_rfl
theorem cells_brs : Try.prog.cellsOf 22 = 1 := by kernel_rfl
theorem cells_br : Try.prog.cellsOf 32 = 2 := by kernel_rfl
theorem cells_sch : Try.prog.cellsOf 24 = 6 := by kernel_rfl

theorem read_bracket (l : List Value) (h : Rd enc Try.prog w base held 32 l) : ∃ a : Int × Int, l = [.int .i64 a.1, .int .i64 a.2] ∧ True := by
  have hl := h.len Try.underlying32 cells_br
  match l, hl with
  | [x, y], _ =>
    have f0 := h.field Try.underlying32 0 2 0 1 rfl cells_i64
    have f1 := h.field Try.underlying32 1 3 1 1 rfl cells_int
    obtain ⟨z0, e0, _⟩ := read_i64 Try.underlying2 f0
    obtain ⟨z1, e1, _⟩ := read_i64 Try.underlying3 f1
    simp at e0 e1
    exact ⟨(z0, z1), by rw [e0, e1], trivial⟩

theorem open_sch {r : Reach} {b0 : Nat} {v : Value} {d : DataW H} {p : List MemPlace} (hv : Value.okWide Try.prog w r b0 24 v) (h : DataW.Trod enc Try.prog w base (fun _ => true) held 24 v d p) :
    ∃ s A c, v = schV s A c ∧ Row w w.heap.size A (brCells s.brs) ∧ s.brs.length ≤ 9223372036854775807 ∧ (-9223372036854775808 ≤ s.ded ∧ s.ded ≤ 9223372036854775807) ∧ (-9223372036854775808 ≤ s.cred ∧ s.cred ≤ 9223372036854775807) ∧
      (-9223372036854775808 ≤ s.lbp ∧ s.lbp ≤ 9223372036854775807) ∧ (-9223372036854775808 ≤ s.lmost ∧ s.lmost ≤ 9223372036854775807) ∧ (-9223372036854775808 ≤ s.lleast ∧ s.lleast ≤ 9223372036854775807) := by
  obtain ⟨cs, rfl, hsz⟩ := okWide_struct Try.underlying24 hv
  obtain ⟨l⟩ := cs
  have hr := Rd.of_trod h
  have hl := hr.len Try.underlying24 cells_sch
  simp only [Value.cells] at hl hr
  match l, hl with
  | [x0, x1, x2, x3, x4, x5], _ =>
    have f0 := hr.field Try.underlying24 0 22 0 1 rfl cells_brs
    have f1 := hr.field Try.underlying24 1 2 1 1 rfl cells_i64
    have f2 := hr.field Try.underlying24 2 2 2 1 rfl cells_i64
    have f3 := hr.field Try.underlying24 3 3 3 1 rfl cells_int
    have f4 := hr.field Try.underlying24 4 3 4 1 rfl cells_int
    have f5 := hr.field Try.underlying24 5 2 5 1 rfl cells_i64
    obtain ⟨z1, e1, b1⟩ := read_i64 Try.underlying2 f1
    obtain ⟨z2, e2, b2⟩ := read_i64 Try.underlying2 f2
    obtain ⟨z3, e3, b3⟩ := read_i64 Try.underlying3 f3
    obtain ⟨z4, e4, b4⟩ := read_i64 Try.underlying3 f4
    obtain ⟨z5, e5, b5⟩ := read_i64 Try.underlying2 f5
    obtain ⟨A, brs, k, e0, hk, hm, _, hrow⟩ := Rd.slice (fun a : Int × Int => [.int .i64 a.1, .int .i64 a.2]) (fun _ => True) Try.underlying22 cells_br (by omega) read_bracket f0
    simp at e0 e1 e2 e3 e4 e5
    refine ⟨⟨brs, z1, z2, z3, z4, z5⟩, A, k, ?_, hrow, by unfold maxLen at hm; dsimp only; omega, b1, b2, b3, b4, b5⟩
    unfold schV
    rw [e0, e1, e2, e3, e4, e5]
end
end Go.Proofs.Ytedaajilmeplnaa
