/-
  Arguments of the laws of charts: postings, lists of steps.
-/
import Derived.Test.YtibanikfalfmcaaRead
import Derived.Test.YtibanikfalfmcaaLegs
import Derived.OpenShut
import Derived.KernelRfl
namespace Go.Proofs.Ytibanikfalfmcaa
open Go.ChangeShapes Go.WideShapes Go.ChangeAt Go.RowKit
set_option linter.unusedVariables false

/-- A posting that came in: its day, its text, its legs' slice, its legs. -/
structure Pg where
  day : Int
  tx : ByteArray
  A : Option Addr
  c : Nat
  ls : List (Int × Int)
def Pg.v (p : Pg) : Value := .agg #[.int .i64 p.day, .string p.tx, .slice p.A p.ls.length p.c]
def Pg.cells (p : Pg) : List Value := [.int .i64 p.day, .string p.tx, .slice p.A p.ls.length p.c]
structure Pg.Ok (p : Pg) (w : World) (B : Nat) : Prop where
  row : Row w B p.A (legCells p.ls)
  len : p.ls.length ≤ 9223372036854775807
  wf : ∀ x ∈ p.ls, (Lit.int .i64 x.1).wf = true
  wf2 : ∀ x ∈ p.ls, (Lit.int .i64 x.2).wf = true
  tx : p.tx.size ≤ maxLen
  day : -9223372036854775808 ≤ p.day ∧ p.day ≤ 9223372036854775807
  cap : p.ls.length ≤ p.c
theorem Pg.Ok.below {p : Pg} {w w' : World} {B : Nat} (h : p.Ok w B) (hb : Below B w w') : p.Ok w' B := ⟨h.row.below hb, h.len, h.wf, h.wf2, h.tx, h.day, h.cap⟩
theorem Pg.Ok.belowLe {p : Pg} {w w' : World} {B B' : Nat} (h : p.Ok w B) (hb : Below B' w w') (hB : B ≤ B') : p.Ok w' B := ⟨h.row.belowLe hb hB, h.len, h.wf, h.wf2, h.tx, h.day, h.cap⟩
/-- A step that came in. -/
structure Sp where
  do_ : Int
  acc : Int
  kind : Int
  p : Pg
def Sp.cells (s : Sp) : List Value := [.int .i64 s.do_, .int .i64 s.acc, .int .i64 s.kind, .int .i64 s.p.day, .string s.p.tx, .slice s.p.A s.p.ls.length s.p.c]
def Sp.Ok (s : Sp) (w : World) (B : Nat) : Prop := (Lit.int .i64 s.acc).wf = true ∧ s.p.Ok w B
def StepRow (w : World) (B : Nat) (A : Option Addr) (l : List Sp) : Prop := Row w B A (l.flatMap Sp.cells) ∧ ∀ s ∈ l, s.Ok w B
theorem StepRow.belowLe {w w' : World} {B B' : Nat} {A : Option Addr} {l : List Sp} (h : StepRow w B A l) (hb : Below B' w w') (hB : B ≤ B') : StepRow w' B A l := ⟨h.1.belowLe hb hB, fun s hs => ⟨(h.2 s hs).1, (h.2 s hs).2.belowLe hb hB⟩⟩
theorem spCells_at {l : List Sp} {k : Nat} {s : Sp} (h : l[k]? = some s) {j : Nat} {v : Value} (hj : s.cells[j]? = some v) : (l.flatMap Sp.cells)[k * 6 + j]? = some v := by
  induction l generalizing k with
  | nil => simp at h
  | cons a r ih =>
    have hl : a.cells.length = 6 := rfl
    have hlj : j < 6 := (List.getElem?_eq_some_iff.1 hj).1
    rw [List.flatMap_cons]
    cases k with
    | zero =>
      simp only [List.getElem?_cons_zero, Option.some.injEq] at h
      subst h
      rw [Nat.zero_mul, Nat.zero_add, List.getElem?_append_left (by omega)]
      exact hj
    | succ k =>
      simp only [List.getElem?_cons_succ] at h
      rw [List.getElem?_append_right (by omega), hl, show (k + 1) * 6 + j - 6 = k * 6 + j by omega]
      exact ih h
/-- The cells of a step. -/
theorem StepRow.at_ {w : World} {B : Nat} {A : Option Addr} {l : List Sp} (h : StepRow w B A l) {k : Nat} {s : Sp} (hk : l[k]? = some s) :
    ∃ ad, A = some ad ∧ ad.block < B ∧ ∀ j v, s.cells[j]? = some v → w.cell? ((ad.add (k * 6)).add j) = some v := by
  obtain ⟨ad, hA, hlt, _⟩ := h.1 _ _ (spCells_at hk (j := 0) rfl)
  refine ⟨ad, hA, hlt, fun j v hj => ?_⟩
  obtain ⟨ad', hA', _, hc⟩ := h.1 _ _ (spCells_at hk hj)
  rw [hA] at hA'
  injection hA' with hA'
  subst hA'
  rw [add_add']
  exact hc

section
variable {H : Type} {enc : TypeId × Value → H} {w : World} {base : Nat} {held : Bool}
theorem read_i64w {t : TypeId} {cs : List Value} (ht : Try.prog.underlying t = some (.int .i64)) (h : Rd enc Try.prog w base held t cs) : ∃ z, cs = [.int .i64 z] ∧ (Lit.int .i64 z).wf = true := h.int ht
theorem wf_i64 {z : Int} (h : (Lit.int .i64 z).wf = true) : -9223372036854775808 ≤ z ∧ z ≤ 9223372036854775807 := by simpa [Lit.wf, IntKind.min, IntKind.max, IntKind.signed, IntKind.bits] using h
theorem cells_i64 : Try.prog.cellsOf 2 = 1 := by kernel_rfl
theorem cells_int : Try.prog.cellsOf 3 = 1 := by kernel_rfl
theorem cells_str : Try.prog.cellsOf 9 = 1 := by kernel_rfl
theorem cells_legs : Try.prog.cellsOf 23 = 1 := by kernel_rfl
theorem cells_leg : Try.prog.cellsOf 51 = 2 := by kernel_rfl
theorem cells_pg : Try.prog.cellsOf 25 = 3 := by kernel_rfl
theorem cells_sp : Try.prog.cellsOf 31 = 6 := by kernel_rfl

theorem read_leg (l : List Value) (h : Rd enc Try.prog w base held 51 l) : ∃ a : Int × Int, l = [.int .i64 a.1, .int .i64 a.2] ∧ ((Lit.int .i64 a.1).wf = true ∧ (Lit.int .i64 a.2).wf = true) := by
  have hl := h.len Try.underlying51 cells_leg
  match l, hl with
  | [x, y], _ =>
    have f0 := h.field Try.underlying51 0 3 0 1 rfl cells_int
    have f1 := h.field Try.underlying51 1 2 1 1 rfl cells_i64
    obtain ⟨z0, e0, w0⟩ := read_i64w Try.underlying3 f0
    obtain ⟨z1, e1, w1⟩ := read_i64w Try.underlying2 f1
    simp at e0 e1
    exact ⟨(z0, z1), by rw [e0, e1], w0, w1⟩
theorem read_pg (l : List Value) (h : Rd enc Try.prog w base held 25 l) : ∃ p : Pg, l = p.cells ∧ p.Ok w w.heap.size := by
  have hl := h.len Try.underlying25 cells_pg
  match l, hl with
  | [x, y, z], _ =>
    have f0 := h.field Try.underlying25 0 3 0 1 rfl cells_int
    have f1 := h.field Try.underlying25 1 9 1 1 rfl cells_str
    have f2 := h.field Try.underlying25 2 23 2 1 rfl cells_legs
    obtain ⟨z0, e0, w0⟩ := read_i64w Try.underlying3 f0
    obtain ⟨s1, e1, w1⟩ := f1.string Try.underlying9
    obtain ⟨A, ls, k, e2, hk, hm, hg, hrow⟩ := Rd.slice (fun a : Int × Int => [.int .i64 a.1, .int .i64 a.2]) (fun a => (Lit.int .i64 a.1).wf = true ∧ (Lit.int .i64 a.2).wf = true) Try.underlying23 cells_leg (by omega) read_leg f2
    simp at e0 e1 e2
    exact ⟨⟨z0, s1, A, k, ls⟩, by rw [e0, e1, e2]; rfl, hrow, by unfold maxLen at hm; dsimp only; omega, fun x hx => (hg x hx).1, fun x hx => (hg x hx).2, w1, wf_i64 w0, hk⟩
theorem read_sp (l : List Value) (h : Rd enc Try.prog w base held 31 l) : ∃ s : Sp, l = s.cells ∧ s.Ok w w.heap.size := by
  have hl := h.len Try.underlying31 cells_sp
  match l, hl with
  | [x0, x1, x2, x3, x4, x5], _ =>
    have f0 := h.field Try.underlying31 0 3 0 1 rfl cells_int
    have f1 := h.field Try.underlying31 1 3 1 1 rfl cells_int
    have f2 := h.field Try.underlying31 2 3 2 1 rfl cells_int
    have f3 := h.field Try.underlying31 3 25 3 3 rfl cells_pg
    obtain ⟨z0, e0, w0⟩ := read_i64w Try.underlying3 f0
    obtain ⟨z1, e1, w1⟩ := read_i64w Try.underlying3 f1
    obtain ⟨z2, e2, w2⟩ := read_i64w Try.underlying3 f2
    obtain ⟨p, e3, hp⟩ := read_pg _ f3
    unfold Pg.cells at e3
    simp at e0 e1 e2 e3
    obtain ⟨e3, e4, e5⟩ := e3
    exact ⟨⟨z0, z1, z2, p⟩, by rw [e0, e1, e2, e3, e4, e5]; rfl, w1, hp⟩
set_option maxRecDepth 100000 in
theorem open_pg {r : Reach} {b0 : Nat} {v : Value} {d : DataW H} {ps : List MemPlace} (hv : Value.okWide Try.prog w r b0 25 v) (h : DataW.Trod enc Try.prog w base (fun _ => true) held 25 v d ps) : ∃ p : Pg, v = p.v ∧ p.Ok w w.heap.size := by
  obtain ⟨cs, rfl, hsz⟩ := okWide_struct Try.underlying25 hv
  obtain ⟨l⟩ := cs
  have hr := Rd.of_trod h
  simp only [Value.cells] at hr
  obtain ⟨p, rfl, hp⟩ := read_pg _ hr
  exact ⟨p, rfl, hp⟩
set_option maxRecDepth 100000 in
theorem open_steps {r : Reach} {b0 : Nat} {v : Value} {d : DataW H} {ps : List MemPlace} (hv : Value.okWide Try.prog w r b0 22 v) (h : DataW.Trod enc Try.prog w base (fun _ => true) held 22 v d ps) :
    ∃ A l c, v = .slice A (l : List Sp).length c ∧ StepRow w w.heap.size A l ∧ l.length ≤ 9223372036854775807 := by
  obtain ⟨a1, len1, cap1, rfl⟩ := okWide_slice Try.underlying22 hv
  obtain ⟨A, l, k, e0, hk, hm, hg, hrow⟩ := Rd.slice Sp.cells (fun s => s.Ok w w.heap.size) Try.underlying22 cells_sp (by omega) read_sp (Rd.of_trod h)
  simp [Value.cells] at e0
  obtain ⟨rfl, rfl, rfl⟩ := e0
  exact ⟨_, l, _, rfl, ⟨hrow, hg⟩, by unfold maxLen at hm; omega⟩
end
end Go.Proofs.Ytibanikfalfmcaa
