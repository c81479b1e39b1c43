/-
  Arguments of the laws of frames: a list of frames, two numbers.
-/
import Derived.Test.YtikfiicjgcnljaaRead
import Derived.Test.YtikfiicjgcnljaaSame
import Derived.OpenShut
import Derived.KernelRfl
namespace Go.Proofs.Ytikfiicjgcnljaa
open Go.ChangeShapes Go.WideShapes Go.ChangeAt Go.RowKit
set_option linter.unusedVariables false

section
variable {H : Type} {enc : TypeId × Value → H} {P : Program} {w : World} {base : Nat} {held : Bool}

theorem Rd.byte {t : TypeId} {cs : List Value} (ht : P.underlying t = some (.int .u8)) (h : Rd enc P w base held t cs) : ∃ b : UInt8, cs = [byv b] := by
  obtain ⟨z, h1, h2⟩ := h.int ht
  exact ⟨UInt8.ofNat z.toNat, by rw [h1, toBytes_byv h2]⟩

theorem Rd.bytes {t e : TypeId} {cs : List Value} (ht : P.underlying t = some (.slice e)) (he : P.underlying e = some (.int .u8)) (hc : P.cellsOf e = 1) (h : Rd enc P w base held t cs) :
    ∃ (A : Option Addr) (bs : List UInt8) (k : Nat), cs = [.slice A bs.length k] ∧ bs.length ≤ k ∧ k ≤ maxLen ∧ Bytes w w.heap.size A bs := by
  obtain ⟨A, l, k, e0, hk, hm, _, hrow⟩ := Rd.slice (fun b : UInt8 => [byv b]) (fun _ => True) ht hc (by omega) (fun l hl => by
    obtain ⟨b, hb⟩ := Rd.byte he hl
    exact ⟨b, hb, trivial⟩) h
  refine ⟨A, l, k, e0, hk, hm, ?_⟩
  unfold Bytes
  have : l.flatMap (fun b => [byv b]) = l.map byv := by
    clear hrow e0 hk
    induction l with
    | nil => rfl
    | cons b l ih => simp [ih]
  rw [this] at hrow
  exact hrow

theorem okWide_arr {r : Reach} {b0 n : Nat} {t e : TypeId} {v : Value} (ht : P.underlying t = some (.array n e)) (hv : Value.okWide P w r b0 t v) : ∃ cs, v = .agg cs := by
  simp only [Value.okWide, ht] at hv
  obtain ⟨cs, h1, _⟩ := hv
  exact ⟨cs, h1⟩

theorem Rd.arr2 {t e : TypeId} {cs : List Value} (ht : P.underlying t = some (.array 2 e)) (he : P.underlying e = some (.int .i64)) (hce : P.cellsOf e = 1) (hct : P.cellsOf t = 2) (h : Rd enc P w base held t cs) :
    ∃ x y : Int, cs = [.int .i64 x, .int .i64 y] ∧ (Lit.int .i64 x).wf = true ∧ (Lit.int .i64 y).wf = true := by
  obtain ⟨n, x, hx⟩ := h
  obtain ⟨xs, m, _, _, hl, hxl, hf⟩ := DataW.trod_array ht hx
  rw [hct] at hl
  match cs, hl with
  | [a, b], _ =>
    have f0 := hf 0 (by omega)
    have f1 := hf 1 (by omega)
    rw [hce, List.getElem?_eq_getElem (by omega)] at f0 f1
    simp at f0 f1
    obtain ⟨z0, e0, w0⟩ := Rd.int he (⟨m, _, f0⟩ : Rd enc P w base held e [a])
    obtain ⟨z1, e1, w1⟩ := Rd.int he (⟨m, _, f1⟩ : Rd enc P w base held e [b])
    simp at e0 e1
    exact ⟨z0, z1, by rw [e0, e1], w0, w1⟩
end

section
variable {H : Type} {enc : TypeId × Value → H} {w : World} {base : Nat} {held : Bool}
theorem cells_u8 : Try.prog.cellsOf 5 = 1 := by kernel_rfl
theorem cells_bytes : Try.prog.cellsOf 22 = 1 := by kernel_rfl
theorem cells_rfr : Try.prog.cellsOf 33 = 2 := by kernel_rfl

theorem read_rframe (l : List Value) (h : Rd enc Try.prog w base held 33 l) : ∃ f : Fr, l = f.cells ∧ (Bytes w w.heap.size f.A f.b ∧ f.b.length ≤ f.c ∧ f.c ≤ maxLen) := by
  have hl := h.len Try.underlying33 cells_rfr
  match l, hl with
  | [x, y], _ =>
    have f0 := h.field Try.underlying33 0 5 0 1 rfl cells_u8
    have f1 := h.field Try.underlying33 1 22 1 1 rfl cells_bytes
    obtain ⟨b, e0⟩ := Rd.byte Try.underlying5 f0
    obtain ⟨A, bs, k, e1, h1, h2, h3⟩ := Rd.bytes Try.underlying22 Try.underlying5 cells_u8 f1
    simp at e0 e1
    exact ⟨⟨b, A, k, bs⟩, by rw [e0, e1]; rfl, h3, h1, h2⟩

theorem open_frames {r : Reach} {b0 : Nat} {v : Value} {d : DataW H} {p : List MemPlace} (hv : Value.okWide Try.prog w r b0 39 v) (h : DataW.Trod enc Try.prog w base (fun _ => true) held 39 v d p) :
    ∃ A l c, v = .slice A (l : List Fr).length c ∧ FrRow w w.heap.size A l ∧ l.length ≤ c ∧ l.length ≤ 9223372036854775807 := by
  obtain ⟨a1, len1, cap1, rfl⟩ := okWide_slice Try.underlying39 hv
  obtain ⟨A, l, k, e0, hk, hm, hg, hrow⟩ := Rd.slice Fr.cells (fun f => Bytes w w.heap.size f.A f.b ∧ f.b.length ≤ f.c ∧ f.c ≤ maxLen) Try.underlying39 cells_rfr (by omega) read_rframe (Rd.of_trod h)
  simp [Value.cells] at e0
  obtain ⟨rfl, rfl, rfl⟩ := e0
  exact ⟨_, l, _, rfl, ⟨hrow, fun f hf => ⟨(hg f hf).1, (hg f hf).2.1⟩⟩, hk, by unfold maxLen at hm; omega⟩

theorem open_two {r : Reach} {b0 : Nat} {v : Value} {d : DataW H} {p : List MemPlace} (hv : Value.okWide Try.prog w r b0 48 v) (h : DataW.Trod enc Try.prog w base (fun _ => true) held 48 v d p) :
    ∃ x y : Int, v = .agg #[.int .i64 x, .int .i64 y] ∧ (-9223372036854775808 ≤ x ∧ x ≤ 9223372036854775807) ∧ (-9223372036854775808 ≤ y ∧ y ≤ 9223372036854775807) := by
  obtain ⟨cs, rfl⟩ := okWide_arr Try.underlying48 hv
  obtain ⟨l⟩ := cs
  obtain ⟨x, y, e, h1, h2⟩ := Rd.arr2 Try.underlying48 Try.underlying3 (by kernel_rfl) (by kernel_rfl) (Rd.of_trod h)
  simp only [Value.cells] at e
  refine ⟨x, y, by rw [show l = _ from e], ?_, ?_⟩
  · simpa [Lit.wf, IntKind.min, IntKind.max, IntKind.signed, IntKind.bits] using h1
  · simpa [Lit.wf, IntKind.min, IntKind.max, IntKind.signed, IntKind.bits] using h2
end
end Go.Proofs.Ytikfiicjgcnljaa
